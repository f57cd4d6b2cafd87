/- The trees of the functions that the laws reach, written out by program; each is shown to be the function's own; then their table. -/
import Derived.Test.YtgbgkagodmhbhaaDoorProg
import Derived.KernelRfl
import Derived.Test.YtgbgkagodmhbhaaDoorPg3
namespace Go.Pg
open Go.Proofs
set_option linter.unusedVariables false
noncomputable abbrev PROG : Program := Tryd.prog
noncomputable def T4k0 (s22 : ByteArray) (i25 : Int) (a46 : Addr) (b28 : Bool) : Ex → List Value → Pg :=
  fun e63 l64 => sw e63 .normal (asCons l64 fun v65 l66 => asBool v65 fun b67 => asNil l66 (bif b67 then (.ret .ret [(.string s22), (.int .i64 i25), (.bool false)]) else (.act (ld1 (aadd a46 3)) fun v68 => asInt .i64 v68 fun i69 => grd (Nat.ble (s22.size + 1) 9223372036854775807) (.act (ld1 (aadd a46 1)) fun v70 => asStr v70 fun s71 => grd (Nat.ble ((s22 ++ (bs [32])).size + s71.size) 9223372036854775807) (.ret .normal [(.string ((s22 ++ (bs [32])) ++ s71)), (.int .i64 i69), (.bool b28)]))))) (.fail)

noncomputable def T4k1 (i19 : Int) : Ex → List Value → Pg :=
  fun e72 l73 => sw e72 .ret (asCons l73 fun v74 l75 => asStr v74 fun s76 => asCons l75 fun v77 l78 => asInt .i64 v77 fun i79 => asCons l78 fun v80 l81 => asBool v80 fun b82 => asNil l81 (.ret .ret [(.int .i64 i19), (.string s76), (.int .i64 i79), (.bool b82)])) (sw e72 .normal (asCons l73 fun v83 l84 => asStr v83 fun s85 => asCons l84 fun v86 l87 => asInt .i64 v86 fun i88 => asCons l87 fun v89 l90 => asBool v89 fun b91 => asNil l90 (.ret .normal [(.int .i64 (wi64 (i19 + 1))), (.string s85), (.int .i64 i88), (.bool b91)])) (.fail))

noncomputable def T4b0 (n8 : Nat) (p7 : (Option Addr)) (s0 : ByteArray) : List Value → Pg :=
  fun l16 => asCons l16 fun v17 l18 => asInt .i64 v17 fun i19 => asCons l18 fun v20 l21 => asStr v20 fun s22 => asCons l21 fun v23 l24 => asInt .i64 v23 fun i25 => asCons l24 fun v26 l27 => asBool v26 fun b28 => asNil l27 (bif (decide (i19 < ((n8 : Nat) : Int))) then (.join (asSome p7 fun a29 => grd ((decide (0 ≤ i19)) && (decide (i19 < ((n8 : Nat) : Int)))) (.act (ldN 4 (aadd a29 ((Int.toNat i19) * 4))) fun v30 => asAgg v30 fun l31 => asCons l31 fun v32 l33 => asInt .i64 v32 fun i34 => asCons l33 fun v35 l36 => asStr v35 fun s37 => asCons l36 fun v38 l39 => asInt .i64 v38 fun i40 => asCons l39 fun v41 l42 => asInt .i64 v41 fun i43 => asNil l42 (.act (newC [(.int .i64 0), (.string (bs [])), (.int .i64 0), (.int .i64 0)]) fun v44 => asPtr v44 fun p45 => asSome p45 fun a46 => .act (stC a46 [(.int .i64 i34), (.string s37), (.int .i64 i40), (.int .i64 i43)]) fun v47 => asTuple v47 fun l48 => asNil l48 (.join (.act (ld1 (aadd a46 2)) fun v49 => asInt .i64 v49 fun i50 => bif (decide (i50 < i25)) == false then (.act (ld1 (aadd a46 3)) fun v51 => asInt .i64 v51 fun i52 => .act (ld1 (aadd a46 2)) fun v53 => asInt .i64 v53 fun i54 => bif (decide (i52 ≤ i54)) == false then (.act (ld1 (aadd a46 3)) fun v55 => asInt .i64 v55 fun i56 => bif (decide (i56 > ((s0.size : Nat) : Int))) == false then (.act (ld1 (aadd a46 2)) fun v57 => asInt .i64 v57 fun i58 => .act (ld1 (aadd a46 3)) fun v59 => asInt .i64 v59 fun i60 => grd (((decide (0 ≤ i58)) && (decide (i58 ≤ i60))) && (decide (i60 ≤ ((s0.size : Nat) : Int)))) (.act (ld1 (aadd a46 1)) fun v61 => asStr v61 fun s62 => .ret .normal [(.bool (!((s0.extract (Int.toNat i58) (Int.toNat i60)).toList == s62.toList)))])) else (.ret .normal [(.bool true)])) else (.ret .normal [(.bool true)])) else (.ret .normal [(.bool true)])) (T4k0 s22 i25 a46 b28))))) (T4k1 i19)) else (.ret (.exit 0) [(.int .i64 i19), (.string s22), (.int .i64 i25), (.bool b28)]))

noncomputable def T4k2 (b130 : Bool) : Ex → List Value → Pg :=
  fun e143 l144 => sw e143 .normal (asCons l144 fun v145 l146 => asBool v145 fun b147 => asNil l146 (bif b147 then (.ret .ret [(.bool false)]) else (.ret .normal [(.bool b130)]))) (.fail)

noncomputable def T4k3 (i127 : Int) : Ex → List Value → Pg :=
  fun e148 l149 => sw e148 .ret (asCons l149 fun v150 l151 => asBool v150 fun b152 => asNil l151 (.ret .ret [(.int .i64 i127), (.bool b152)])) (sw e148 .normal (asCons l149 fun v153 l154 => asBool v153 fun b155 => asNil l154 (.ret .normal [(.int .i64 (wi64 (i127 + 1))), (.bool b155)])) (.fail))

noncomputable def T4b1 (n8 : Nat) (p110 : (Option Addr)) (n111 : Nat) (p7 : (Option Addr)) : List Value → Pg :=
  fun l124 => asCons l124 fun v125 l126 => asInt .i64 v125 fun i127 => asCons l126 fun v128 l129 => asBool v128 fun b130 => asNil l129 (bif (decide (i127 < ((n8 : Nat) : Int))) then (.join (.join (asSome p110 fun a131 => grd ((decide (0 ≤ i127)) && (decide (i127 < ((n111 : Nat) : Int)))) (.act (ld1 (aadd (aadd a131 ((Int.toNat i127) * 4)) 0)) fun v132 => asInt .i64 v132 fun i133 => asSome p7 fun a134 => grd ((decide (0 ≤ i127)) && (decide (i127 < ((n8 : Nat) : Int)))) (.act (ld1 (aadd (aadd a134 ((Int.toNat i127) * 4)) 0)) fun v135 => asInt .i64 v135 fun i136 => bif (i133 != i136) == false then (asSome p110 fun a137 => grd ((decide (0 ≤ i127)) && (decide (i127 < ((n111 : Nat) : Int)))) (.act (ld1 (aadd (aadd a137 ((Int.toNat i127) * 4)) 1)) fun v138 => asStr v138 fun s139 => asSome p7 fun a140 => grd ((decide (0 ≤ i127)) && (decide (i127 < ((n8 : Nat) : Int)))) (.act (ld1 (aadd (aadd a140 ((Int.toNat i127) * 4)) 1)) fun v141 => asStr v141 fun s142 => .ret .normal [(.bool (!(s139.toList == s142.toList)))]))) else (.ret .normal [(.bool true)])))) (T4k2 b130)) (T4k3 i127)) else (.ret (.exit 2) [(.int .i64 i127), (.bool b130)]))

noncomputable def T4k4 : Ex → List Value → Pg :=
  fun e156 l157 => sw e156 (.exit 2) (asCons l157 fun v158 l159 => asInt .i64 v158 fun i160 => asCons l159 fun v161 l162 => asBool v161 fun b163 => asNil l162 (.ret .ret [(.bool true)])) (sw e156 .ret (asCons l157 fun v164 l165 => asInt .i64 v164 fun i166 => asCons l165 fun v167 l168 => asBool v167 fun b169 => asNil l168 (.ret .ret [(.bool b169)])) (.fail))

noncomputable def T4k5 (s99 : ByteArray) (b105 : Bool) (n8 : Nat) (p110 : (Option Addr)) (n111 : Nat) (p7 : (Option Addr)) : Ex → List Value → Pg :=
  fun e119 l120 => sw e119 .normal (asCons l120 fun v121 l122 => asBool v121 fun b123 => asNil l122 (bif b123 then (.ret .ret [(.bool (decide (((s99.size : Nat) : Int) > 4000)))]) else (.loop [(.int .i64 0), (.bool b105)] (T4b1 n8 p110 n111 p7) (T4k4)))) (.fail)

noncomputable def T4k6 (n8 : Nat) (p7 : (Option Addr)) : Ex → List Value → Pg :=
  fun e92 l93 => sw e92 (.exit 0) (asCons l93 fun v94 l95 => asInt .i64 v94 fun i96 => asCons l95 fun v97 l98 => asStr v97 fun s99 => asCons l98 fun v100 l101 => asInt .i64 v100 fun i102 => asCons l101 fun v103 l104 => asBool v103 fun b105 => asNil l104 (.call 10 [(.string s99)] fun v106 => asTuple v106 fun l107 => asCons l107 fun v108 l109 => asSlice v108 fun p110 n111 n112 => asCons l109 fun v113 l114 => asInt .i64 v113 fun i115 => asCons l114 fun v116 l117 => asInt .i64 v116 fun i118 => asNil l117 (.join (bif (i115 != 0) == false then (.ret .normal [(.bool (((n111 : Nat) : Int) != ((n8 : Nat) : Int)))]) else (.ret .normal [(.bool true)])) (T4k5 s99 b105 n8 p110 n111 p7)))) (sw e92 .ret (asCons l93 fun v170 l171 => asInt .i64 v170 fun i172 => asCons l171 fun v173 l174 => asStr v173 fun s175 => asCons l174 fun v176 l177 => asInt .i64 v176 fun i178 => asCons l177 fun v179 l180 => asBool v179 fun b181 => asNil l180 (.ret .ret [(.bool b181)])) (.fail))

/-- hindsight/hindsightlaw2.LexBack -/
noncomputable def T4 (s0 : ByteArray) : Pg :=
  .call 9 [] fun v1 => asBool v1 fun b2 => bif (!b2) then (.ret .ret [(.bool false)]) else (bif (decide (((s0.size : Nat) : Int) > 1200)) then (.ret .ret [(.bool true)]) else (.call 10 [(.string s0)] fun v3 => asTuple v3 fun l4 => asCons l4 fun v5 l6 => asSlice v5 fun p7 n8 n9 => asCons l6 fun v10 l11 => asInt .i64 v10 fun i12 => asCons l11 fun v13 l14 => asInt .i64 v13 fun i15 => asNil l14 (bif (i12 != 0) then (.ret .ret [(.bool (((n8 : Nat) : Int) == 0))]) else (.loop [(.int .i64 0), (.string (bs [])), (.int .i64 0), (.bool false)] (T4b0 n8 p7 s0) (T4k6 n8 p7)))))
theorem T4_eq (s0 : ByteArray) : progOf PROG false 4 [(.string s0)] = T4 s0 := by kernel_rfl


noncomputable def T5k0 (i7 : Int) : Ex → List Value → Pg :=
  fun e11 l12 => sw e11 .normal (asCons l12 fun v13 l14 => asStr v13 fun s15 => asNil l14 (.ret .normal [(.int .i64 (wi64 (i7 + 1))), (.string s15)])) (.fail)

noncomputable def T5b0 (i1 : Int) : List Value → Pg :=
  fun l4 => asCons l4 fun v5 l6 => asInt .i64 v5 fun i7 => asCons l6 fun v8 l9 => asStr v8 fun s10 => asNil l9 (bif (decide (i7 < i1)) then (.join (grd (Nat.ble (s10.size + 1) 9223372036854775807) (.ret .normal [(.string (s10 ++ (bs [32])))])) (T5k0 i7)) else (.ret (.exit 0) [(.int .i64 i7), (.string s10)]))

noncomputable def T5k1 (b61 : Bool) : Ex → List Value → Pg :=
  fun e86 l87 => sw e86 .normal (asCons l87 fun v88 l89 => asBool v88 fun b90 => asNil l89 (bif b90 then (.ret .ret [(.bool false)]) else (.ret .normal [(.bool b61)]))) (.fail)

noncomputable def T5k2 (i58 : Int) : Ex → List Value → Pg :=
  fun e91 l92 => sw e91 .ret (asCons l92 fun v93 l94 => asBool v93 fun b95 => asNil l94 (.ret .ret [(.int .i64 i58), (.bool b95)])) (sw e91 .normal (asCons l92 fun v96 l97 => asBool v96 fun b98 => asNil l97 (.ret .normal [(.int .i64 (wi64 (i58 + 1))), (.bool b98)])) (.fail))

noncomputable def T5b1 (n29 : Nat) (p28 : (Option Addr)) (p41 : (Option Addr)) (n42 : Nat) (s23 : ByteArray) : List Value → Pg :=
  fun l55 => asCons l55 fun v56 l57 => asInt .i64 v56 fun i58 => asCons l57 fun v59 l60 => asBool v59 fun b61 => asNil l60 (bif (decide (i58 < ((n29 : Nat) : Int))) then (.join (.join (asSome p28 fun a62 => grd ((decide (0 ≤ i58)) && (decide (i58 < ((n29 : Nat) : Int)))) (.act (ld1 (aadd (aadd a62 ((Int.toNat i58) * 4)) 0)) fun v63 => asInt .i64 v63 fun i64 => asSome p41 fun a65 => grd ((decide (0 ≤ i58)) && (decide (i58 < ((n42 : Nat) : Int)))) (.act (ld1 (aadd (aadd a65 ((Int.toNat i58) * 4)) 0)) fun v66 => asInt .i64 v66 fun i67 => bif (i64 != i67) == false then (asSome p28 fun a68 => grd ((decide (0 ≤ i58)) && (decide (i58 < ((n29 : Nat) : Int)))) (.act (ld1 (aadd (aadd a68 ((Int.toNat i58) * 4)) 1)) fun v69 => asStr v69 fun s70 => asSome p41 fun a71 => grd ((decide (0 ≤ i58)) && (decide (i58 < ((n42 : Nat) : Int)))) (.act (ld1 (aadd (aadd a71 ((Int.toNat i58) * 4)) 1)) fun v72 => asStr v72 fun s73 => bif (!(s70.toList == s73.toList)) == false then (asSome p28 fun a74 => grd ((decide (0 ≤ i58)) && (decide (i58 < ((n29 : Nat) : Int)))) (.act (ld1 (aadd (aadd a74 ((Int.toNat i58) * 4)) 2)) fun v75 => asInt .i64 v75 fun i76 => asSome p41 fun a77 => grd ((decide (0 ≤ i58)) && (decide (i58 < ((n42 : Nat) : Int)))) (.act (ld1 (aadd (aadd a77 ((Int.toNat i58) * 4)) 2)) fun v78 => asInt .i64 v78 fun i79 => bif ((wi64 (i76 + ((s23.size : Nat) : Int))) != i79) == false then (asSome p28 fun a80 => grd ((decide (0 ≤ i58)) && (decide (i58 < ((n29 : Nat) : Int)))) (.act (ld1 (aadd (aadd a80 ((Int.toNat i58) * 4)) 3)) fun v81 => asInt .i64 v81 fun i82 => asSome p41 fun a83 => grd ((decide (0 ≤ i58)) && (decide (i58 < ((n42 : Nat) : Int)))) (.act (ld1 (aadd (aadd a83 ((Int.toNat i58) * 4)) 3)) fun v84 => asInt .i64 v84 fun i85 => .ret .normal [(.bool ((wi64 (i82 + ((s23.size : Nat) : Int))) != i85))]))) else (.ret .normal [(.bool true)])))) else (.ret .normal [(.bool true)])))) else (.ret .normal [(.bool true)])))) (T5k1 b61)) (T5k2 i58)) else (.ret (.exit 2) [(.int .i64 i58), (.bool b61)]))

noncomputable def T5k3 : Ex → List Value → Pg :=
  fun e99 l100 => sw e99 (.exit 2) (asCons l100 fun v101 l102 => asInt .i64 v101 fun i103 => asCons l102 fun v104 l105 => asBool v104 fun b106 => asNil l105 (.ret .ret [(.bool true)])) (sw e99 .ret (asCons l100 fun v107 l108 => asInt .i64 v107 fun i109 => asCons l108 fun v110 l111 => asBool v110 fun b112 => asNil l111 (.ret .ret [(.bool b112)])) (.fail))

noncomputable def T5k4 (n29 : Nat) (p28 : (Option Addr)) (p41 : (Option Addr)) (n42 : Nat) (s23 : ByteArray) : Ex → List Value → Pg :=
  fun e50 l51 => sw e50 .normal (asCons l51 fun v52 l53 => asBool v52 fun b54 => asNil l53 (bif b54 then (.ret .ret [(.bool false)]) else (.loop [(.int .i64 0), (.bool false)] (T5b1 n29 p28 p41 n42 s23) (T5k3)))) (.fail)

noncomputable def T5k5 (s0 : ByteArray) : Ex → List Value → Pg :=
  fun e16 l17 => sw e16 (.exit 0) (asCons l17 fun v18 l19 => asInt .i64 v18 fun i20 => asCons l19 fun v21 l22 => asStr v21 fun s23 => asNil l22 (.call 10 [(.string s0)] fun v24 => asTuple v24 fun l25 => asCons l25 fun v26 l27 => asSlice v26 fun p28 n29 n30 => asCons l27 fun v31 l32 => asInt .i64 v31 fun i33 => asCons l32 fun v34 l35 => asInt .i64 v34 fun i36 => asNil l35 (grd (Nat.ble (s23.size + s0.size) 9223372036854775807) (grd (Nat.ble ((s23 ++ s0).size + 1) 9223372036854775807) (.call 10 [(.string ((s23 ++ s0) ++ (bs [32])))] fun v37 => asTuple v37 fun l38 => asCons l38 fun v39 l40 => asSlice v39 fun p41 n42 n43 => asCons l40 fun v44 l45 => asInt .i64 v44 fun i46 => asCons l45 fun v47 l48 => asInt .i64 v47 fun i49 => asNil l48 (.join (bif (i33 != i46) == false then (bif (((n29 : Nat) : Int) != ((n42 : Nat) : Int)) == false then (bif (i33 != 0) == true then (.ret .normal [(.bool (i49 != (wi64 (i36 + ((s23.size : Nat) : Int)))))]) else (.ret .normal [(.bool false)])) else (.ret .normal [(.bool true)])) else (.ret .normal [(.bool true)])) (T5k4 n29 p28 p41 n42 s23))))))) (.fail)

/-- hindsight/hindsightlaw2.LexBlanks -/
noncomputable def T5 (s0 : ByteArray) (i1 : Int) : Pg :=
  .call 9 [] fun v2 => asBool v2 fun b3 => bif (!b3) then (.ret .ret [(.bool false)]) else (bif (((decide (((s0.size : Nat) : Int) > 1000)) || (decide (i1 < 0))) || (decide (i1 > 20))) then (.ret .ret [(.bool true)]) else (.loop [(.int .i64 0), (.string (bs [40, 42, 32, 120, 32, 40, 42, 32, 42, 41, 32, 42, 41]))] (T5b0 i1) (T5k5 s0)))
theorem T5_eq (s0 : ByteArray) (i1 : Int) : progOf PROG false 5 [(.string s0), (.int .i64 i1)] = T5 s0 i1 := by kernel_rfl


noncomputable def T6k0 (b22 : Bool) : Ex → List Value → Pg :=
  fun e95 l96 => sw e95 .normal (asCons l96 fun v97 l98 => asBool v97 fun b99 => asNil l98 (bif b99 then (.ret .ret [(.bool false)]) else (.ret .normal [(.bool b22)]))) (.fail)

noncomputable def T6k1 (a40 : Addr) (b22 : Bool) : Ex → List Value → Pg :=
  fun e70 l71 => sw e70 .normal (asCons l71 fun v72 l73 => asBool v72 fun b74 => asNil l73 (bif b74 then (.ret .ret [(.bool false)]) else (.act (ld1 (aadd a40 1)) fun v75 => asStr v75 fun s76 => .call 10 [(.string s76)] fun v77 => asTuple v77 fun l78 => asCons l78 fun v79 l80 => asSlice v79 fun p81 n82 n83 => asCons l80 fun v84 l85 => asInt .i64 v84 fun i86 => asCons l85 fun v87 l88 => asInt .i64 v87 fun i89 => asNil l88 (.join (bif (i86 != 0) == false then (bif (((n82 : Nat) : Int) != 1) == false then (asSome p81 fun a90 => grd (decide (0 < ((n82 : Nat) : Int))) (.act (ld1 (aadd (aadd a90 0) 0)) fun v91 => asInt .i64 v91 fun i92 => .act (ld1 (aadd a40 0)) fun v93 => asInt .i64 v93 fun i94 => .ret .normal [(.bool (i92 != i94))])) else (.ret .normal [(.bool true)])) else (.ret .normal [(.bool true)])) (T6k0 b22))))) (.fail)

noncomputable def T6k2 (a40 : Addr) (s0 : ByteArray) (b22 : Bool) : Ex → List Value → Pg :=
  fun e57 l58 => sw e57 .normal (asCons l58 fun v59 l60 => asBool v59 fun b61 => asNil l60 (bif b61 then (.ret .ret [(.bool false)]) else (.join (.act (ld1 (aadd a40 0)) fun v62 => asInt .i64 v62 fun i63 => bif (i63 == 1) == true then (.act (ld1 (aadd a40 3)) fun v64 => asInt .i64 v64 fun i65 => bif (decide (i65 < ((s0.size : Nat) : Int))) == true then (.act (ld1 (aadd a40 3)) fun v66 => asInt .i64 v66 fun i67 => grd ((decide (0 ≤ i67)) && (decide (i67 < ((s0.size : Nat) : Int)))) (bif (decide ((byteAt s0 (Int.toNat i67)) ≥ 48)) == true then (.act (ld1 (aadd a40 3)) fun v68 => asInt .i64 v68 fun i69 => grd ((decide (0 ≤ i69)) && (decide (i69 < ((s0.size : Nat) : Int)))) (.ret .normal [(.bool (decide ((byteAt s0 (Int.toNat i69)) ≤ 57)))])) else (.ret .normal [(.bool false)]))) else (.ret .normal [(.bool false)])) else (.ret .normal [(.bool false)])) (T6k1 a40 b22)))) (.fail)

noncomputable def T6k3 (i19 : Int) : Ex → List Value → Pg :=
  fun e100 l101 => sw e100 .ret (asCons l101 fun v102 l103 => asBool v102 fun b104 => asNil l103 (.ret .ret [(.int .i64 i19), (.bool b104)])) (sw e100 .normal (asCons l101 fun v105 l106 => asBool v105 fun b107 => asNil l106 (.ret .normal [(.int .i64 (wi64 (i19 + 1))), (.bool b107)])) (.fail))

noncomputable def T6b0 (n8 : Nat) (p7 : (Option Addr)) (s0 : ByteArray) : List Value → Pg :=
  fun l16 => asCons l16 fun v17 l18 => asInt .i64 v17 fun i19 => asCons l18 fun v20 l21 => asBool v20 fun b22 => asNil l21 (bif (decide (i19 < ((n8 : Nat) : Int))) then (.join (asSome p7 fun a23 => grd ((decide (0 ≤ i19)) && (decide (i19 < ((n8 : Nat) : Int)))) (.act (ldN 4 (aadd a23 ((Int.toNat i19) * 4))) fun v24 => asAgg v24 fun l25 => asCons l25 fun v26 l27 => asInt .i64 v26 fun i28 => asCons l27 fun v29 l30 => asStr v29 fun s31 => asCons l30 fun v32 l33 => asInt .i64 v32 fun i34 => asCons l33 fun v35 l36 => asInt .i64 v35 fun i37 => asNil l36 (.act (newC [(.int .i64 0), (.string (bs [])), (.int .i64 0), (.int .i64 0)]) fun v38 => asPtr v38 fun p39 => asSome p39 fun a40 => .act (stC a40 [(.int .i64 i28), (.string s31), (.int .i64 i34), (.int .i64 i37)]) fun v41 => asTuple v41 fun l42 => asNil l42 (.join (.act (ld1 (aadd a40 0)) fun v43 => asInt .i64 v43 fun i44 => bif (decide (i44 < 1)) == false then (.act (ld1 (aadd a40 0)) fun v45 => asInt .i64 v45 fun i46 => bif (decide (i46 > 5)) == false then (.act (ld1 (aadd a40 1)) fun v47 => asStr v47 fun s48 => bif (s48.toList == (bs []).toList) == false then (.act (ld1 (aadd a40 3)) fun v49 => asInt .i64 v49 fun i50 => bif (decide (i50 > ((s0.size : Nat) : Int))) == false then (.act (ld1 (aadd a40 2)) fun v51 => asInt .i64 v51 fun i52 => bif (decide (i52 < 0)) == false then (.act (ld1 (aadd a40 2)) fun v53 => asInt .i64 v53 fun i54 => .act (ld1 (aadd a40 3)) fun v55 => asInt .i64 v55 fun i56 => .ret .normal [(.bool (decide (i54 > i56)))]) else (.ret .normal [(.bool true)])) else (.ret .normal [(.bool true)])) else (.ret .normal [(.bool true)])) else (.ret .normal [(.bool true)])) else (.ret .normal [(.bool true)])) (T6k2 a40 s0 b22))))) (T6k3 i19)) else (.ret (.exit 0) [(.int .i64 i19), (.bool b22)]))

noncomputable def T6k4 : Ex → List Value → Pg :=
  fun e108 l109 => sw e108 (.exit 0) (asCons l109 fun v110 l111 => asInt .i64 v110 fun i112 => asCons l111 fun v113 l114 => asBool v113 fun b115 => asNil l114 (.ret .ret [(.bool true)])) (sw e108 .ret (asCons l109 fun v116 l117 => asInt .i64 v116 fun i118 => asCons l117 fun v119 l120 => asBool v119 fun b121 => asNil l120 (.ret .ret [(.bool b121)])) (.fail))

/-- hindsight/hindsightlaw2.LexKinds -/
noncomputable def T6 (s0 : ByteArray) : Pg :=
  .call 9 [] fun v1 => asBool v1 fun b2 => bif (!b2) then (.ret .ret [(.bool false)]) else (bif (decide (((s0.size : Nat) : Int) > 1000)) then (.ret .ret [(.bool true)]) else (.call 10 [(.string s0)] fun v3 => asTuple v3 fun l4 => asCons l4 fun v5 l6 => asSlice v5 fun p7 n8 n9 => asCons l6 fun v10 l11 => asInt .i64 v10 fun i12 => asCons l11 fun v13 l14 => asInt .i64 v13 fun i15 => asNil l14 (.loop [(.int .i64 0), (.bool false)] (T6b0 n8 p7 s0) (T6k4))))
theorem T6_eq (s0 : ByteArray) : progOf PROG false 6 [(.string s0)] = T6 s0 := by kernel_rfl


noncomputable def T9k0 : Ex → List Value → Pg :=
  fun e49 l50 => sw e49 .normal (asCons l50 fun v51 l52 => asBool v51 fun b53 => asNil l52 (.ret .ret [(.bool b53)])) (.fail)

/-- hindsight/hindsightlaw2.awake -/
noncomputable def T9 : Pg :=
  .call 10 [(.string (bs [108, 101, 116, 32, 120, 32, 61, 32, 49]))] fun v0 => asTuple v0 fun l1 => asCons l1 fun v2 l3 => asSlice v2 fun p4 n5 n6 => asCons l3 fun v7 l8 => asInt .i64 v7 fun i9 => asCons l8 fun v10 l11 => asInt .i64 v10 fun i12 => asNil l11 (.join (bif ((i9 == 0) && (i12 == 0)) == true then (bif (((n5 : Nat) : Int) == 4) == true then (asSome p4 fun a13 => grd (decide (0 < ((n5 : Nat) : Int))) (.act (ldN 4 (aadd a13 0)) fun v14 => asAgg v14 fun l15 => asCons l15 fun v16 l17 => asInt .i64 v16 fun i18 => asCons l17 fun v19 l20 => asStr v19 fun s21 => asCons l20 fun v22 l23 => asInt .i64 v22 fun i24 => asCons l23 fun v25 l26 => asInt .i64 v25 fun i27 => asNil l26 (bif ((i18 == 4) && ((s21.toList == (bs [108, 101, 116]).toList) && ((i24 == 0) && ((i27 == 3) && true)))) == true then (asSome p4 fun a28 => grd (decide (1 < ((n5 : Nat) : Int))) (.act (ld1 (aadd (aadd a28 4) 0)) fun v29 => asInt .i64 v29 fun i30 => bif (i30 == 2) == true then (asSome p4 fun a31 => grd (decide (2 < ((n5 : Nat) : Int))) (.act (ld1 (aadd (aadd a31 8) 0)) fun v32 => asInt .i64 v32 fun i33 => bif (i33 == 5) == true then (asSome p4 fun a34 => grd (decide (3 < ((n5 : Nat) : Int))) (.act (ldN 4 (aadd a34 12)) fun v35 => asAgg v35 fun l36 => asCons l36 fun v37 l38 => asInt .i64 v37 fun i39 => asCons l38 fun v40 l41 => asStr v40 fun s42 => asCons l41 fun v43 l44 => asInt .i64 v43 fun i45 => asCons l44 fun v46 l47 => asInt .i64 v46 fun i48 => asNil l47 (.ret .normal [(.bool ((i39 == 1) && ((s42.toList == (bs [49]).toList) && ((i45 == 8) && ((i48 == 9) && true)))))]))) else (.ret .normal [(.bool false)]))) else (.ret .normal [(.bool false)]))) else (.ret .normal [(.bool false)])))) else (.ret .normal [(.bool false)])) else (.ret .normal [(.bool false)])) (T9k0))
theorem T9_eq : progOf PROG false 9 [] = T9 := by kernel_rfl


noncomputable def T10k0 (a42 : Addr) : Ex → List Value → Pg :=
  fun e47 l48 => sw e47 .ret (asCons l48 fun v49 l50 => asInt .i64 v49 fun i51 => asCons l50 fun v52 l53 => asInt .i64 v52 fun i54 => asCons l53 fun v55 l56 => asSlice v55 fun p57 n58 n59 => asNil l56 (.ret .ret [(.int .i64 i54), (.slice p57 n58 n59), (.int .i64 i51)])) (sw e47 .normal (asCons l48 fun v60 l61 => asInt .i64 v60 fun i62 => asCons l61 fun v63 l64 => asInt .i64 v63 fun i65 => asCons l64 fun v66 l67 => asSlice v66 fun p68 n69 n70 => asNil l67 (.act (ld1 (aadd a42 1)) fun v71 => asStr v71 fun s72 => .act (stC (aadd a42 2) [(.int .i64 i62)]) fun v73 => asTuple v73 fun l74 => asNil l74 (.act (stC (aadd a42 3) [(.int .i64 (wi64 (i62 + ((s72.size : Nat) : Int))))]) fun v75 => asTuple v75 fun l76 => asNil l76 (.act (ldN 4 a42) fun v77 => asAgg v77 fun l78 => asCons l78 fun v79 l80 => asInt .i64 v79 fun i81 => asCons l80 fun v82 l83 => asStr v82 fun s84 => asCons l83 fun v85 l86 => asInt .i64 v85 fun i87 => asCons l86 fun v88 l89 => asInt .i64 v88 fun i90 => asNil l89 (.act (bdSl 4 1 [(.int .i64 i81), (.string s84), (.int .i64 i87), (.int .i64 i90)]) fun v91 => asSlice v91 fun p92 n93 n94 => .act (apS 4 40 p68 n69 n70 p92 n93 n94) fun v95 => asSlice v95 fun p96 n97 n98 => .act (ld1 (aadd a42 3)) fun v99 => asInt .i64 v99 fun i100 => .ret .normal [(.int .i64 i65), (.slice p96 n97 n98), (.int .i64 i100)]))))) (.fail))

noncomputable def T10k1 (p7 : (Option Addr)) (n8 : Nat) (n9 : Nat) (b20 : Bool) (i12 : Int) (i17 : Int) (s0 : ByteArray) (i4 : Int) : Ex → List Value → Pg :=
  fun e21 l22 => sw e21 .normal (asCons l22 fun v23 l24 => asBool v23 fun b25 => asNil l24 (bif b25 then (.ret .ret [(.int .i64 0), (.slice p7 n8 n9), (.int .i64 0)]) else (bif (!b20) then (.ret .ret [(.int .i64 3), (.slice none 0 0), (.int .i64 (wi64 (i12 + i17)))]) else (grd (((decide (0 ≤ (wi64 (i12 + i17)))) && (decide ((wi64 (i12 + i17)) ≤ ((s0.size : Nat) : Int)))) && (decide (((s0.size : Nat) : Int) ≤ ((s0.size : Nat) : Int)))) (.call 18 [(.string (s0.extract (Int.toNat (wi64 (i12 + i17))) s0.size))] fun v26 => asAgg v26 fun l27 => asCons l27 fun v28 l29 => asInt .i64 v28 fun i30 => asCons l29 fun v31 l32 => asStr v31 fun s33 => asCons l32 fun v34 l35 => asInt .i64 v34 fun i36 => asCons l35 fun v37 l38 => asInt .i64 v37 fun i39 => asNil l38 (.act (newC [(.int .i64 0), (.string (bs [])), (.int .i64 0), (.int .i64 0)]) fun v40 => asPtr v40 fun p41 => asSome p41 fun a42 => .act (stC a42 [(.int .i64 i30), (.string s33), (.int .i64 i36), (.int .i64 i39)]) fun v43 => asTuple v43 fun l44 => asNil l44 (.join (.act (ld1 (aadd a42 0)) fun v45 => asInt .i64 v45 fun i46 => bif (i46 == 0) then (.ret .ret [(.int .i64 (wi64 (i12 + i17))), (.int .i64 3), (.slice none 0 0)]) else (bif (decide (((n8 : Nat) : Int) ≥ 2000)) then (.ret .ret [(.int .i64 (wi64 (i12 + i17))), (.int .i64 2), (.slice none 0 0)]) else (.ret .normal [(.int .i64 (wi64 (i12 + i17))), (.int .i64 i4), (.slice p7 n8 n9)]))) (T10k0 a42)))))))) (.fail)

noncomputable def T10k2 : Ex → List Value → Pg :=
  fun e101 l102 => sw e101 .ret (asCons l102 fun v103 l104 => asInt .i64 v103 fun i105 => asCons l104 fun v106 l107 => asSlice v106 fun p108 n109 n110 => asCons l107 fun v111 l112 => asInt .i64 v111 fun i113 => asNil l112 (.ret .ret [(.int .i64 i105), (.slice p108 n109 n110), (.int .i64 i113)])) (sw e101 .normal (asCons l102 fun v114 l115 => asInt .i64 v114 fun i116 => asCons l115 fun v117 l118 => asSlice v117 fun p119 n120 n121 => asCons l118 fun v122 l123 => asInt .i64 v122 fun i124 => asNil l123 (.ret .normal [(.int .i64 i116), (.slice p119 n120 n121), (.int .i64 i124)])) (.fail))

noncomputable def T10b0 (s0 : ByteArray) : List Value → Pg :=
  fun l1 => asCons l1 fun v2 l3 => asInt .i64 v2 fun i4 => asCons l3 fun v5 l6 => asSlice v5 fun p7 n8 n9 => asCons l6 fun v10 l11 => asInt .i64 v10 fun i12 => asNil l11 (.join (grd (((decide (0 ≤ i12)) && (decide (i12 ≤ ((s0.size : Nat) : Int)))) && (decide (((s0.size : Nat) : Int) ≤ ((s0.size : Nat) : Int)))) (.call 17 [(.string (s0.extract (Int.toNat i12) s0.size))] fun v13 => asTuple v13 fun l14 => asCons l14 fun v15 l16 => asInt .i64 v15 fun i17 => asCons l16 fun v18 l19 => asBool v18 fun b20 => asNil l19 (.join (bif b20 == true then (.ret .normal [(.bool ((wi64 (i12 + i17)) == ((s0.size : Nat) : Int)))]) else (.ret .normal [(.bool false)])) (T10k1 p7 n8 n9 b20 i12 i17 s0 i4)))) (T10k2))

noncomputable def T10k3 : Ex → List Value → Pg :=
  fun e125 l126 => sw e125 .ret (asCons l126 fun v127 l128 => asInt .i64 v127 fun i129 => asCons l128 fun v130 l131 => asSlice v130 fun p132 n133 n134 => asCons l131 fun v135 l136 => asInt .i64 v135 fun i137 => asNil l136 (.ret .ret [(.tuple #[(.slice p132 n133 n134), (.int .i64 i129), (.int .i64 i137)])])) (.fail)

/-- hindsight/lex.Lex -/
noncomputable def T10 (s0 : ByteArray) : Pg :=
  bif (decide (((s0.size : Nat) : Int) > 4000)) then (.ret .ret [(.tuple #[(.slice none 0 0), (.int .i64 2), (.int .i64 0)])]) else (.loop [(.int .i64 0), (.slice none 0 0), (.int .i64 0)] (T10b0 s0) (T10k3))
theorem T10_eq (s0 : ByteArray) : progOf PROG false 10 [(.string s0)] = T10 s0 := by kernel_rfl


noncomputable def T17k0 : Ex → List Value → Pg :=
  fun e17 l18 => sw e17 .ret (asCons l18 fun v19 l20 => asBool v19 fun b21 => asCons l20 fun v22 l23 => asInt .i64 v22 fun i24 => asCons l23 fun v25 l26 => asInt .i64 v25 fun i27 => asNil l26 (.ret .ret [(.bool b21), (.int .i64 i24), (.int .i64 i27)])) (sw e17 .normal (asCons l18 fun v28 l29 => asBool v28 fun b30 => asCons l29 fun v31 l32 => asInt .i64 v31 fun i33 => asCons l32 fun v34 l35 => asInt .i64 v34 fun i36 => asNil l35 (.ret .normal [(.bool b30), (.int .i64 i33), (.int .i64 i36)])) (.fail))

noncomputable def T17b0 (s0 : ByteArray) : List Value → Pg :=
  fun l1 => asCons l1 fun v2 l3 => asBool v2 fun b4 => asCons l3 fun v5 l6 => asInt .i64 v5 fun i7 => asCons l6 fun v8 l9 => asInt .i64 v8 fun i10 => asNil l9 (.join (grd (((decide (0 ≤ i10)) && (decide (i10 ≤ ((s0.size : Nat) : Int)))) && (decide (((s0.size : Nat) : Int) ≤ ((s0.size : Nat) : Int)))) (.call 32 [(.string (s0.extract (Int.toNat i10) s0.size)), (.func (.func 33) #[] #[])] fun v11 => asInt .i64 v11 fun i12 => grd (((decide (0 ≤ (wi64 (i10 + i12)))) && (decide ((wi64 (i10 + i12)) ≤ ((s0.size : Nat) : Int)))) && (decide (((s0.size : Nat) : Int) ≤ ((s0.size : Nat) : Int)))) (.call 35 [(.string (s0.extract (Int.toNat (wi64 (i10 + i12))) s0.size)), (.string (bs [40, 42]))] fun v13 => asBool v13 fun b14 => bif (!b14) then (.ret .ret [(.bool true), (.int .i64 (wi64 (i10 + i12))), (.int .i64 (wi64 (i10 + i12)))]) else (grd (((decide (0 ≤ (wi64 (i10 + i12)))) && (decide ((wi64 (i10 + i12)) ≤ ((s0.size : Nat) : Int)))) && (decide (((s0.size : Nat) : Int) ≤ ((s0.size : Nat) : Int)))) (.call 36 [(.string (s0.extract (Int.toNat (wi64 (i10 + i12))) s0.size))] fun v15 => asInt .i64 v15 fun i16 => bif (i16 == 0) then (.ret .ret [(.bool false), (.int .i64 (wi64 (i10 + i12))), (.int .i64 (wi64 (i10 + i12)))]) else (.ret .normal [(.bool b4), (.int .i64 i7), (.int .i64 (wi64 ((wi64 (i10 + i12)) + i16)))])))))) (T17k0))

noncomputable def T17k1 : Ex → List Value → Pg :=
  fun e37 l38 => sw e37 .ret (asCons l38 fun v39 l40 => asBool v39 fun b41 => asCons l40 fun v42 l43 => asInt .i64 v42 fun i44 => asCons l43 fun v45 l46 => asInt .i64 v45 fun i47 => asNil l46 (.ret .ret [(.tuple #[(.int .i64 i44), (.bool b41)])])) (.fail)

/-- hindsight/lex.skip -/
noncomputable def T17 (s0 : ByteArray) : Pg :=
  .loop [(.bool false), (.int .i64 0), (.int .i64 0)] (T17b0 s0) (T17k1)
theorem T17_eq (s0 : ByteArray) : progOf PROG false 17 [(.string s0)] = T17 s0 := by kernel_rfl


noncomputable def T18k0 : Ex → List Value → Pg :=
  fun e58 l59 => sw e58 .ret (asNil l59 (.ret .ret [])) (sw e58 .normal (asNil l59 (.ret .normal [])) (.fail))

noncomputable def T18k1 : Ex → List Value → Pg :=
  fun e60 l61 => sw e60 .ret (asNil l61 (.ret .ret [])) (sw e60 .normal (asNil l61 (.ret .normal [])) (.fail))

noncomputable def T18k2 (a3 : Addr) : Ex → List Value → Pg :=
  fun e62 l63 => sw e62 .ret (asNil l63 (.act (ldN 4 a3) fun v64 => .ret .ret [v64])) (sw e62 .normal (asNil l63 (.act (stC a3 [(.int .i64 0), (.string (bs [])), (.int .i64 0), (.int .i64 0)]) fun v65 => asTuple v65 fun l66 => asNil l66 (.act (ldN 4 a3) fun v67 => .ret .ret [v67]))) (.fail))

/-- hindsight/lex.word -/
noncomputable def T18 (s0 : ByteArray) : Pg :=
  .act (newC [(.int .i64 0), (.string (bs [])), (.int .i64 0), (.int .i64 0)]) fun v1 => asPtr v1 fun p2 => asSome p2 fun a3 => .call 37 [(.string s0)] fun v4 => asTuple v4 fun l5 => asCons l5 fun v6 l7 => asInt .i32 v6 fun i8 => asCons l7 fun v9 l10 => asInt .i64 v9 fun i11 => asNil l10 (.call 34 [(.int .i32 i8)] fun v12 => asInt .i64 v12 fun i13 => .join (.join (bif (i13 == 1) then (bif (i8 != 39) then (.call 38 [(.string s0)] fun v14 => asAgg v14 fun l15 => asCons l15 fun v16 l17 => asInt .i64 v16 fun i18 => asCons l17 fun v19 l20 => asStr v19 fun s21 => asCons l20 fun v22 l23 => asInt .i64 v22 fun i24 => asCons l23 fun v25 l26 => asInt .i64 v25 fun i27 => asNil l26 (.act (stC a3 [(.int .i64 i18), (.string s21), (.int .i64 i24), (.int .i64 i27)]) fun v28 => asTuple v28 fun l29 => asNil l29 (.ret .ret []))) else (.ret .normal [])) else (.join (bif (i13 == 2) then (.call 32 [(.string s0), (.func (.func 39) #[] #[])] fun v30 => asInt .i64 v30 fun i31 => grd ((decide (0 ≤ i31)) && (decide (i31 ≤ ((s0.size : Nat) : Int)))) (.call 40 [(.string (s0.extract 0 (Int.toNat i31)))] fun v32 => asTuple v32 fun l33 => asCons l33 fun v34 l35 => asInt .i64 v34 fun i36 => asCons l35 fun v37 l38 => asBool v37 fun b39 => asNil l38 (bif b39 then (grd ((decide (0 ≤ i31)) && (decide (i31 ≤ ((s0.size : Nat) : Int)))) (.act (stC a3 [(.int .i64 1), (.string (s0.extract 0 (Int.toNat i31))), (.int .i64 0), (.int .i64 0)]) fun v40 => asTuple v40 fun l41 => asNil l41 (.ret .ret []))) else (.ret .normal [])))) else (bif (i13 == 4) then (.call 41 [(.string s0)] fun v42 => asAgg v42 fun l43 => asCons l43 fun v44 l45 => asInt .i64 v44 fun i46 => asCons l45 fun v47 l48 => asStr v47 fun s49 => asCons l48 fun v50 l51 => asInt .i64 v50 fun i52 => asCons l51 fun v53 l54 => asInt .i64 v53 fun i55 => asNil l54 (.act (stC a3 [(.int .i64 i46), (.string s49), (.int .i64 i52), (.int .i64 i55)]) fun v56 => asTuple v56 fun l57 => asNil l57 (.ret .ret []))) else (.ret .normal []))) (T18k0))) (T18k1)) (T18k2 a3))
theorem T18_eq (s0 : ByteArray) : progOf PROG false 18 [(.string s0)] = T18 s0 := by kernel_rfl


noncomputable def T32k0 : Ex → List Value → Pg :=
  fun e17 l18 => sw e17 .ret (asCons l18 fun v19 l20 => asInt .i64 v19 fun i21 => asNil l20 (.ret .ret [(.int .i64 i21)])) (sw e17 .normal (asCons l18 fun v22 l23 => asInt .i64 v22 fun i24 => asNil l23 (.ret .normal [(.int .i64 i24)])) (.fail))

noncomputable def T32b0 (a4 : Addr) (v1 : Value) : List Value → Pg :=
  fun l5 => asCons l5 fun v6 l7 => asInt .i64 v6 fun i8 => asNil l7 (.act (nxt (some a4)) fun v9 => asNx v9 (fun i10 i11 => .join (asFunc v1 fun n12 l13 l14 => .call n12 (l13 ++ [(.int .i32 i11)] ++ l14) fun v15 => asBool v15 fun b16 => bif (!b16) then (.ret .ret [(.int .i64 i10)]) else (.ret .normal [(.int .i64 i8)])) (T32k0)) (.ret (.exit 0) [(.int .i64 i8)]))

noncomputable def T32k1 (s0 : ByteArray) : Ex → List Value → Pg :=
  fun e25 l26 => sw e25 (.exit 0) (asCons l26 fun v27 l28 => asInt .i64 v27 fun i29 => asNil l28 (.ret .ret [(.int .i64 ((s0.size : Nat) : Int))])) (sw e25 .ret (asCons l26 fun v30 l31 => asInt .i64 v30 fun i32 => asNil l31 (.ret .ret [(.int .i64 i32)])) (.fail))

/-- hindsight/lex.run -/
noncomputable def T32 (s0 : ByteArray) (v1 : Value) : Pg :=
  .act (rng s0) fun v2 => asPtr v2 fun p3 => asSome p3 fun a4 => .loop [(.int .i64 0)] (T32b0 a4 v1) (T32k1 s0)
theorem T32_eq (s0 : ByteArray) (v1 : Value) : progOf PROG false 32 [(.string s0), v1] = T32 s0 v1 := by kernel_rfl


/-- hindsight/lex.skip$1 -/
noncomputable def T33 (i0 : Int) : Pg :=
  .call 34 [(.int .i32 i0)] fun v1 => asInt .i64 v1 fun i2 => .ret .ret [(.bool (i2 == 3))]
theorem T33_eq (i0 : Int) : progOf PROG false 33 [(.int .i32 i0)] = T33 i0 := by kernel_rfl


noncomputable def T34k0 (i0 : Int) : Ex → List Value → Pg :=
  fun e3 l4 => sw e3 .normal (asCons l4 fun v5 l6 => asBool v5 fun b7 => asNil l6 (bif b7 then (.ret .ret [(.int .i64 1)]) else (bif ((decide (i0 ≥ 48)) && (decide (i0 ≤ 57))) then (.ret .ret [(.int .i64 2)]) else (.ret .normal [(.int .i64 0)])))) (.fail)

noncomputable def T34k1 : Ex → List Value → Pg :=
  fun e16 l17 => sw e16 .normal (asCons l17 fun v18 l19 => asBool v18 fun b20 => asNil l19 (.ret .normal [(.bool b20)])) (.fail)

noncomputable def T34k2 : Ex → List Value → Pg :=
  fun e21 l22 => sw e21 .normal (asCons l22 fun v23 l24 => asBool v23 fun b25 => asNil l24 (.ret .normal [(.bool b25)])) (.fail)

noncomputable def T34k3 : Ex → List Value → Pg :=
  fun e31 l32 => sw e31 .normal (asCons l32 fun v33 l34 => asBool v33 fun b35 => asNil l34 (.ret .normal [(.bool b35)])) (.fail)

noncomputable def T34k4 : Ex → List Value → Pg :=
  fun e36 l37 => sw e36 .normal (asCons l37 fun v38 l39 => asBool v38 fun b40 => asNil l39 (.ret .normal [(.bool b40)])) (.fail)

noncomputable def T34k5 : Ex → List Value → Pg :=
  fun e41 l42 => sw e41 .normal (asCons l42 fun v43 l44 => asBool v43 fun b45 => asNil l44 (.ret .normal [(.bool b45)])) (.fail)

noncomputable def T34k6 : Ex → List Value → Pg :=
  fun e46 l47 => sw e46 .normal (asCons l47 fun v48 l49 => asBool v48 fun b50 => asNil l49 (.ret .normal [(.bool b50)])) (.fail)

noncomputable def T34k7 : Ex → List Value → Pg :=
  fun e51 l52 => sw e51 .normal (asCons l52 fun v53 l54 => asBool v53 fun b55 => asNil l54 (.ret .normal [(.bool b55)])) (.fail)

noncomputable def T34k8 : Ex → List Value → Pg :=
  fun e56 l57 => sw e56 .normal (asCons l57 fun v58 l59 => asBool v58 fun b60 => asNil l59 (.ret .normal [(.bool b60)])) (.fail)

noncomputable def T34k9 : Ex → List Value → Pg :=
  fun e61 l62 => sw e61 .normal (asCons l62 fun v63 l64 => asBool v63 fun b65 => asNil l64 (.ret .normal [(.bool b65)])) (.fail)

noncomputable def T34k10 : Ex → List Value → Pg :=
  fun e66 l67 => sw e66 .normal (asCons l67 fun v68 l69 => asBool v68 fun b70 => asNil l69 (.ret .normal [(.bool b70)])) (.fail)

noncomputable def T34k11 : Ex → List Value → Pg :=
  fun e71 l72 => sw e71 .normal (asCons l72 fun v73 l74 => asBool v73 fun b75 => asNil l74 (.ret .normal [(.bool b75)])) (.fail)

noncomputable def T34k12 : Ex → List Value → Pg :=
  fun e76 l77 => sw e76 .normal (asCons l77 fun v78 l79 => asBool v78 fun b80 => asNil l79 (.ret .normal [(.bool b80)])) (.fail)

noncomputable def T34k13 : Ex → List Value → Pg :=
  fun e81 l82 => sw e81 .normal (asCons l82 fun v83 l84 => asBool v83 fun b85 => asNil l84 (.ret .normal [(.bool b85)])) (.fail)

noncomputable def T34k14 (i15 : Int) : Ex → List Value → Pg :=
  fun e86 l87 => sw e86 .normal (asCons l87 fun v88 l89 => asBool v88 fun b90 => asNil l89 (bif b90 then (.ret .ret [(.int .i64 4)]) else (.ret .normal [(.int .i64 i15)]))) (.fail)

noncomputable def T34k15 (i0 : Int) (i15 : Int) : Ex → List Value → Pg :=
  fun e26 l27 => sw e26 .normal (asCons l27 fun v28 l29 => asBool v28 fun b30 => asNil l29 (bif b30 then (.ret .ret [(.int .i64 3)]) else (.join (bif (i0 == 40) then (.ret .normal [(.bool (i0 == 40))]) else (.join (bif (i0 == 41) then (.ret .normal [(.bool (i0 == 41))]) else (.join (bif (i0 == 44) then (.ret .normal [(.bool (i0 == 44))]) else (.join (bif (i0 == 59) then (.ret .normal [(.bool (i0 == 59))]) else (.join (bif (i0 == 61) then (.ret .normal [(.bool (i0 == 61))]) else (.join (bif (i0 == 60) then (.ret .normal [(.bool (i0 == 60))]) else (.join (bif (i0 == 62) then (.ret .normal [(.bool (i0 == 62))]) else (.join (bif (i0 == 43) then (.ret .normal [(.bool (i0 == 43))]) else (.join (bif (i0 == 45) then (.ret .normal [(.bool (i0 == 45))]) else (.join (bif (i0 == 42) then (.ret .normal [(.bool (i0 == 42))]) else (.join (bif (i0 == 124) then (.ret .normal [(.bool (i0 == 124))]) else (.join (bif (i0 == 33) then (.ret .normal [(.bool (i0 == 33))]) else (.ret .normal [(.bool (i0 == 58))])) (T34k3))) (T34k4))) (T34k5))) (T34k6))) (T34k7))) (T34k8))) (T34k9))) (T34k10))) (T34k11))) (T34k12))) (T34k13))) (T34k14 i15)))) (.fail)

noncomputable def T34k16 : Ex → List Value → Pg :=
  fun e91 l92 => sw e91 .ret (asCons l92 fun v93 l94 => asInt .i64 v93 fun i95 => asNil l94 (.ret .ret [(.int .i64 i95)])) (sw e91 .normal (asCons l92 fun v96 l97 => asInt .i64 v96 fun i98 => asNil l97 (.ret .ret [(.int .i64 0)])) (.fail))

noncomputable def T34k17 (i0 : Int) : Ex → List Value → Pg :=
  fun e8 l9 => sw e8 .ret (asCons l9 fun v10 l11 => asInt .i64 v10 fun i12 => asNil l11 (.ret .ret [(.int .i64 i12)])) (sw e8 .normal (asCons l9 fun v13 l14 => asInt .i64 v13 fun i15 => asNil l14 (.join (.join (bif (i0 == 32) then (.ret .normal [(.bool (i0 == 32))]) else (.join (bif (i0 == 9) then (.ret .normal [(.bool (i0 == 9))]) else (.join (bif (i0 == 10) then (.ret .normal [(.bool (i0 == 10))]) else (.ret .normal [(.bool (i0 == 13))])) (T34k1))) (T34k2))) (T34k15 i0 i15)) (T34k16))) (.fail))

/-- hindsight/chars.Class -/
noncomputable def T34 (i0 : Int) : Pg :=
  .join (.join (bif ((i0 == 95) || (i0 == 39)) == false then (.call 54 [(.int .i32 i0)] fun v1 => asBool v1 fun b2 => .ret .normal [(.bool b2)]) else (.ret .normal [(.bool true)])) (T34k0 i0)) (T34k17 i0)
theorem T34_eq (i0 : Int) : progOf PROG false 34 [(.int .i32 i0)] = T34 i0 := by kernel_rfl


/-- strings.HasPrefix -/
noncomputable def T35 (s0 : ByteArray) (s1 : ByteArray) : Pg :=
  .call 55 [(.string s0), (.string s1)] fun v2 => asBool v2 fun b3 => .ret .ret [(.bool b3)]
theorem T35_eq (s0 : ByteArray) (s1 : ByteArray) : progOf PROG false 35 [(.string s0), (.string s1)] = T35 s0 s1 := by kernel_rfl


noncomputable def T36k0 : Ex → List Value → Pg :=
  fun e15 l16 => sw e15 .normal (asCons l16 fun v17 l18 => asInt .i64 v17 fun i19 => asCons l18 fun v20 l21 => asInt .i64 v20 fun i22 => asNil l21 (.ret .normal [(.int .i64 i19), (.int .i64 i22)])) (.fail)

noncomputable def T36k1 : Ex → List Value → Pg :=
  fun e23 l24 => sw e23 .normal (asCons l24 fun v25 l26 => asInt .i64 v25 fun i27 => asCons l26 fun v28 l29 => asInt .i64 v28 fun i30 => asNil l29 (.ret .normal [(.int .i64 i27), (.int .i64 i30)])) (.fail)

noncomputable def T36k2 (i4 : Int) : Ex → List Value → Pg :=
  fun e31 l32 => sw e31 .normal (asCons l32 fun v33 l34 => asInt .i64 v33 fun i35 => asCons l34 fun v36 l37 => asInt .i64 v36 fun i38 => asNil l37 (bif (i38 == 0) then (.ret .ret [(.int .i64 i35), (.int .i64 i35), (.int .i64 i38)]) else (.ret .normal [(.int .i64 i4), (.int .i64 i35), (.int .i64 i38)]))) (.fail)

noncomputable def T36k3 : Ex → List Value → Pg :=
  fun e39 l40 => sw e39 .ret (asCons l40 fun v41 l42 => asInt .i64 v41 fun i43 => asCons l42 fun v44 l45 => asInt .i64 v44 fun i46 => asCons l45 fun v47 l48 => asInt .i64 v47 fun i49 => asNil l48 (.ret .ret [(.int .i64 i43), (.int .i64 i46), (.int .i64 i49)])) (sw e39 .normal (asCons l40 fun v50 l51 => asInt .i64 v50 fun i52 => asCons l51 fun v53 l54 => asInt .i64 v53 fun i55 => asCons l54 fun v56 l57 => asInt .i64 v56 fun i58 => asNil l57 (.ret .normal [(.int .i64 i52), (.int .i64 i55), (.int .i64 i58)])) (.fail))

noncomputable def T36b0 (s0 : ByteArray) : List Value → Pg :=
  fun l1 => asCons l1 fun v2 l3 => asInt .i64 v2 fun i4 => asCons l3 fun v5 l6 => asInt .i64 v5 fun i7 => asCons l6 fun v8 l9 => asInt .i64 v8 fun i10 => asNil l9 (bif (decide (i7 < ((s0.size : Nat) : Int))) then (.join (.join (grd (((decide (0 ≤ i7)) && (decide (i7 ≤ ((s0.size : Nat) : Int)))) && (decide (((s0.size : Nat) : Int) ≤ ((s0.size : Nat) : Int)))) (.call 35 [(.string (s0.extract (Int.toNat i7) s0.size)), (.string (bs [40, 42]))] fun v11 => asBool v11 fun b12 => .join (bif b12 then (.ret .normal [(.int .i64 (wi64 (i7 + 2))), (.int .i64 (wi64 (i10 + 1)))]) else (grd (((decide (0 ≤ i7)) && (decide (i7 ≤ ((s0.size : Nat) : Int)))) && (decide (((s0.size : Nat) : Int) ≤ ((s0.size : Nat) : Int)))) (.call 35 [(.string (s0.extract (Int.toNat i7) s0.size)), (.string (bs [42, 41]))] fun v13 => asBool v13 fun b14 => .join (bif b14 then (.ret .normal [(.int .i64 (wi64 (i7 + 2))), (.int .i64 (wi64 (i10 - 1)))]) else (.ret .normal [(.int .i64 (wi64 (i7 + 1))), (.int .i64 i10)])) (T36k0)))) (T36k1))) (T36k2 i4)) (T36k3)) else (.ret (.exit 0) [(.int .i64 i4), (.int .i64 i7), (.int .i64 i10)]))

noncomputable def T36k4 : Ex → List Value → Pg :=
  fun e59 l60 => sw e59 (.exit 0) (asCons l60 fun v61 l62 => asInt .i64 v61 fun i63 => asCons l62 fun v64 l65 => asInt .i64 v64 fun i66 => asCons l65 fun v67 l68 => asInt .i64 v67 fun i69 => asNil l68 (.ret .ret [(.int .i64 0)])) (sw e59 .ret (asCons l60 fun v70 l71 => asInt .i64 v70 fun i72 => asCons l71 fun v73 l74 => asInt .i64 v73 fun i75 => asCons l74 fun v76 l77 => asInt .i64 v76 fun i78 => asNil l77 (.ret .ret [(.int .i64 i72)])) (.fail))

/-- hindsight/lex.remark -/
noncomputable def T36 (s0 : ByteArray) : Pg :=
  .loop [(.int .i64 0), (.int .i64 0), (.int .i64 0)] (T36b0 s0) (T36k4)
theorem T36_eq (s0 : ByteArray) : progOf PROG false 36 [(.string s0)] = T36 s0 := by kernel_rfl


noncomputable def T38k0 : Ex → List Value → Pg :=
  fun e21 l22 => sw e21 .normal (asNil l22 (.ret .normal [])) (.fail)

noncomputable def T38k1 : Ex → List Value → Pg :=
  fun e23 l24 => sw e23 .normal (asNil l24 (.ret .normal [])) (.fail)

noncomputable def T38k2 (a8 : Addr) (a3 : Addr) : Ex → List Value → Pg :=
  fun e25 l26 => sw e25 .normal (asNil l26 (.act (ldN 4 a8) fun v27 => asAgg v27 fun l28 => asCons l28 fun v29 l30 => asInt .i64 v29 fun i31 => asCons l30 fun v32 l33 => asStr v32 fun s34 => asCons l33 fun v35 l36 => asInt .i64 v35 fun i37 => asCons l36 fun v38 l39 => asInt .i64 v38 fun i40 => asNil l39 (.act (stC a3 [(.int .i64 i31), (.string s34), (.int .i64 i37), (.int .i64 i40)]) fun v41 => asTuple v41 fun l42 => asNil l42 (.act (ldN 4 a3) fun v43 => .ret .ret [v43])))) (.fail)

/-- hindsight/lex.named -/
noncomputable def T38 (s0 : ByteArray) : Pg :=
  .act (newC [(.int .i64 0), (.string (bs [])), (.int .i64 0), (.int .i64 0)]) fun v1 => asPtr v1 fun p2 => asSome p2 fun a3 => .call 32 [(.string s0), (.func (.func 57) #[] #[])] fun v4 => asInt .i64 v4 fun i5 => grd ((decide (0 ≤ i5)) && (decide (i5 ≤ ((s0.size : Nat) : Int)))) (.act (newC [(.int .i64 0), (.string (bs [])), (.int .i64 0), (.int .i64 0)]) fun v6 => asPtr v6 fun p7 => asSome p7 fun a8 => .act (stC a8 [(.int .i64 2), (.string (s0.extract 0 (Int.toNat i5))), (.int .i64 0), (.int .i64 0)]) fun v9 => asTuple v9 fun l10 => asNil l10 (.join (.call 47 [(.string s0)] fun v11 => asBool v11 fun b12 => .join (bif b12 then (.act (stC (aadd a8 0) [(.int .i64 3)]) fun v13 => asTuple v13 fun l14 => asNil l14 (.ret .normal [])) else (.act (ld1 (aadd a8 1)) fun v15 => asStr v15 fun s16 => .call 58 [(.string s16)] fun v17 => asBool v17 fun b18 => .join (bif b18 then (.act (stC (aadd a8 0) [(.int .i64 4)]) fun v19 => asTuple v19 fun l20 => asNil l20 (.ret .normal [])) else (.ret .normal [])) (T38k0))) (T38k1)) (T38k2 a8 a3)))
theorem T38_eq (s0 : ByteArray) : progOf PROG false 38 [(.string s0)] = T38 s0 := by kernel_rfl


/-- hindsight/lex.word$1 -/
noncomputable def T39 (i0 : Int) : Pg :=
  .call 34 [(.int .i32 i0)] fun v1 => asInt .i64 v1 fun i2 => .ret .ret [(.bool (i2 == 2))]
theorem T39_eq (i0 : Int) : progOf PROG false 39 [(.int .i32 i0)] = T39 i0 := by kernel_rfl


noncomputable def T40k0 : Ex → List Value → Pg :=
  fun e17 l18 => sw e17 .ret (asCons l18 fun v19 l20 => asInt .i64 v19 fun i21 => asCons l20 fun v22 l23 => asBool v22 fun b24 => asCons l23 fun v25 l26 => asInt .i64 v25 fun i27 => asNil l26 (.ret .ret [(.int .i64 i21), (.bool b24), (.int .i64 i27)])) (sw e17 .normal (asCons l18 fun v28 l29 => asInt .i64 v28 fun i30 => asCons l29 fun v31 l32 => asBool v31 fun b33 => asCons l32 fun v34 l35 => asInt .i64 v34 fun i36 => asNil l35 (.ret .normal [(.int .i64 i30), (.bool b33), (.int .i64 i36)])) (.fail))

noncomputable def T40b0 (a3 : Addr) : List Value → Pg :=
  fun l4 => asCons l4 fun v5 l6 => asInt .i64 v5 fun i7 => asCons l6 fun v8 l9 => asBool v8 fun b10 => asCons l9 fun v11 l12 => asInt .i64 v11 fun i13 => asNil l12 (.act (nxt (some a3)) fun v14 => asNx v14 (fun i15 i16 => .join (bif (decide (i7 > (wi64 (Int.tdiv (wi64 (4611686018427387903 - (wi64 (wi32 (i16 - 48))))) 10)))) then (.ret .ret [(.int .i64 i7), (.bool false), (.int .i64 0)]) else (.ret .normal [(.int .i64 (wi64 ((wi64 (10 * i7)) + (wi64 (wi32 (i16 - 48)))))), (.bool b10), (.int .i64 i13)])) (T40k0)) (.ret (.exit 0) [(.int .i64 i7), (.bool b10), (.int .i64 i13)]))

noncomputable def T40k1 : Ex → List Value → Pg :=
  fun e37 l38 => sw e37 (.exit 0) (asCons l38 fun v39 l40 => asInt .i64 v39 fun i41 => asCons l40 fun v42 l43 => asBool v42 fun b44 => asCons l43 fun v45 l46 => asInt .i64 v45 fun i47 => asNil l46 (.ret .ret [(.tuple #[(.int .i64 i41), (.bool true)])])) (sw e37 .ret (asCons l38 fun v48 l49 => asInt .i64 v48 fun i50 => asCons l49 fun v51 l52 => asBool v51 fun b53 => asCons l52 fun v54 l55 => asInt .i64 v54 fun i56 => asNil l55 (.ret .ret [(.tuple #[(.int .i64 i56), (.bool b53)])])) (.fail))

/-- hindsight/lex.Value -/
noncomputable def T40 (s0 : ByteArray) : Pg :=
  .act (rng s0) fun v1 => asPtr v1 fun p2 => asSome p2 fun a3 => .loop [(.int .i64 0), (.bool false), (.int .i64 0)] (T40b0 a3) (T40k1)
theorem T40_eq (s0 : ByteArray) : progOf PROG false 40 [(.string s0)] = T40 s0 := by kernel_rfl


noncomputable def T41k0 (i11 : Int) : Ex → List Value → Pg :=
  fun e19 l20 => sw e19 .ret (asNil l20 (.ret .ret [(.int .i64 i11)])) (sw e19 .normal (asNil l20 (.ret .normal [(.int .i64 (wi64 (i11 + 1)))])) (.fail))

noncomputable def T41b0 (n6 : Nat) (p5 : (Option Addr)) (s0 : ByteArray) (a3 : Addr) : List Value → Pg :=
  fun l8 => asCons l8 fun v9 l10 => asInt .i64 v9 fun i11 => asNil l10 (bif (decide (i11 < ((n6 : Nat) : Int))) then (.join (asSome p5 fun a12 => grd ((decide (0 ≤ i11)) && (decide (i11 < ((n6 : Nat) : Int)))) (.act (ld1 (aadd a12 ((Int.toNat i11) * 1))) fun v13 => asStr v13 fun s14 => .call 35 [(.string s0), (.string s14)] fun v15 => asBool v15 fun b16 => bif b16 then (.act (stC a3 [(.int .i64 5), (.string s14), (.int .i64 0), (.int .i64 0)]) fun v17 => asTuple v17 fun l18 => asNil l18 (.ret .ret [])) else (.ret .normal []))) (T41k0 i11)) else (.ret (.exit 0) [(.int .i64 i11)]))

noncomputable def T41k1 (a3 : Addr) (s0 : ByteArray) : Ex → List Value → Pg :=
  fun e26 l27 => sw e26 .normal (asCons l27 fun v28 l29 => asBool v28 fun b30 => asNil l29 (bif b30 then (.act (stC a3 [(.int .i64 0), (.string (bs [])), (.int .i64 0), (.int .i64 0)]) fun v31 => asTuple v31 fun l32 => asNil l32 (.act (ldN 4 a3) fun v33 => .ret .ret [v33])) else (grd (decide (1 ≤ ((s0.size : Nat) : Int))) (.act (stC a3 [(.int .i64 5), (.string (s0.extract 0 1)), (.int .i64 0), (.int .i64 0)]) fun v34 => asTuple v34 fun l35 => asNil l35 (.act (ldN 4 a3) fun v36 => .ret .ret [v36]))))) (.fail)

noncomputable def T41k2 (s0 : ByteArray) (a3 : Addr) : Ex → List Value → Pg :=
  fun e21 l22 => sw e21 (.exit 0) (asCons l22 fun v23 l24 => asInt .i64 v23 fun i25 => asNil l24 (.join (grd (decide (0 < ((s0.size : Nat) : Int))) (bif ((byteAt s0 0) == 62) == false then (grd (decide (0 < ((s0.size : Nat) : Int))) (.ret .normal [(.bool ((byteAt s0 0) == 58))])) else (.ret .normal [(.bool true)]))) (T41k1 a3 s0))) (sw e21 .ret (asCons l22 fun v37 l38 => asInt .i64 v37 fun i39 => asNil l38 (.act (ldN 4 a3) fun v40 => .ret .ret [v40])) (.fail))

/-- hindsight/lex.marked -/
noncomputable def T41 (s0 : ByteArray) : Pg :=
  .act (newC [(.int .i64 0), (.string (bs [])), (.int .i64 0), (.int .i64 0)]) fun v1 => asPtr v1 fun p2 => asSome p2 fun a3 => .act (bdSl 1 2 [(.string (bs [58, 61])), (.string (bs [45, 62]))]) fun v4 => asSlice v4 fun p5 n6 n7 => .loop [(.int .i64 0)] (T41b0 n6 p5 s0 a3) (T41k2 s0 a3)
theorem T41_eq (s0 : ByteArray) : progOf PROG false 41 [(.string s0)] = T41 s0 := by kernel_rfl


noncomputable def T47k0 : Ex → List Value → Pg :=
  fun e13 l14 => sw e13 .ret (asCons l14 fun v15 l16 => asBool v15 fun b17 => asNil l16 (.ret .ret [(.bool b17)])) (.fail)

noncomputable def T47b0 (a3 : Addr) : List Value → Pg :=
  fun l4 => asCons l4 fun v5 l6 => asBool v5 fun b7 => asNil l6 (.act (nxt (some a3)) fun v8 => asNx v8 (fun i9 i10 => .join (.call 51 [(.int .i32 i10)] fun v11 => asBool v11 fun b12 => .ret .ret [(.bool b12)]) (T47k0)) (.ret (.exit 0) [(.bool b7)]))

noncomputable def T47k1 : Ex → List Value → Pg :=
  fun e18 l19 => sw e18 (.exit 0) (asCons l19 fun v20 l21 => asBool v20 fun b22 => asNil l21 (.ret .ret [(.bool false)])) (sw e18 .ret (asCons l19 fun v23 l24 => asBool v23 fun b25 => asNil l24 (.ret .ret [(.bool b25)])) (.fail))

/-- hindsight/chars.Upper -/
noncomputable def T47 (s0 : ByteArray) : Pg :=
  .act (rng s0) fun v1 => asPtr v1 fun p2 => asSome p2 fun a3 => .loop [(.bool false)] (T47b0 a3) (T47k1)
theorem T47_eq (s0 : ByteArray) : progOf PROG false 47 [(.string s0)] = T47 s0 := by kernel_rfl


noncomputable def T55k0 : Ex → List Value → Pg :=
  fun e2 l3 => sw e2 .normal (asCons l3 fun v4 l5 => asBool v4 fun b6 => asNil l5 (.ret .ret [(.bool b6)])) (.fail)

/-- internal/stringslite.HasPrefix -/
noncomputable def T55 (s0 : ByteArray) (s1 : ByteArray) : Pg :=
  .join (bif (decide (((s0.size : Nat) : Int) ≥ ((s1.size : Nat) : Int))) == true then (grd (decide (((s1.size : Nat) : Int) ≤ ((s0.size : Nat) : Int))) (.ret .normal [(.bool ((s0.extract 0 s1.size).toList == s1.toList))])) else (.ret .normal [(.bool false)])) (T55k0)
theorem T55_eq (s0 : ByteArray) (s1 : ByteArray) : progOf PROG false 55 [(.string s0), (.string s1)] = T55 s0 s1 := by kernel_rfl


/-- hindsight/lex.named$1 -/
noncomputable def T57 (i0 : Int) : Pg :=
  .call 34 [(.int .i32 i0)] fun v1 => asInt .i64 v1 fun i2 => .ret .ret [(.bool ((i2 == 1) || (i2 == 2)))]
theorem T57_eq (i0 : Int) : progOf PROG false 57 [(.int .i32 i0)] = T57 i0 := by kernel_rfl


noncomputable def T58k0 : Ex → List Value → Pg :=
  fun e1 l2 => sw e1 .normal (asCons l2 fun v3 l4 => asBool v3 fun b5 => asNil l4 (.ret .normal [(.bool b5)])) (.fail)

noncomputable def T58k1 : Ex → List Value → Pg :=
  fun e6 l7 => sw e6 .normal (asCons l7 fun v8 l9 => asBool v8 fun b10 => asNil l9 (.ret .normal [(.bool b10)])) (.fail)

noncomputable def T58k2 : Ex → List Value → Pg :=
  fun e11 l12 => sw e11 .normal (asCons l12 fun v13 l14 => asBool v13 fun b15 => asNil l14 (.ret .normal [(.bool b15)])) (.fail)

noncomputable def T58k3 : Ex → List Value → Pg :=
  fun e16 l17 => sw e16 .normal (asCons l17 fun v18 l19 => asBool v18 fun b20 => asNil l19 (.ret .normal [(.bool b20)])) (.fail)

noncomputable def T58k4 : Ex → List Value → Pg :=
  fun e21 l22 => sw e21 .normal (asCons l22 fun v23 l24 => asBool v23 fun b25 => asNil l24 (.ret .normal [(.bool b25)])) (.fail)

noncomputable def T58k5 : Ex → List Value → Pg :=
  fun e26 l27 => sw e26 .normal (asCons l27 fun v28 l29 => asBool v28 fun b30 => asNil l29 (.ret .normal [(.bool b30)])) (.fail)

noncomputable def T58k6 : Ex → List Value → Pg :=
  fun e31 l32 => sw e31 .normal (asCons l32 fun v33 l34 => asBool v33 fun b35 => asNil l34 (.ret .normal [(.bool b35)])) (.fail)

noncomputable def T58k7 : Ex → List Value → Pg :=
  fun e36 l37 => sw e36 .normal (asCons l37 fun v38 l39 => asBool v38 fun b40 => asNil l39 (.ret .normal [(.bool b40)])) (.fail)

noncomputable def T58k8 : Ex → List Value → Pg :=
  fun e41 l42 => sw e41 .normal (asCons l42 fun v43 l44 => asBool v43 fun b45 => asNil l44 (.ret .normal [(.bool b45)])) (.fail)

noncomputable def T58k9 : Ex → List Value → Pg :=
  fun e46 l47 => sw e46 .normal (asCons l47 fun v48 l49 => asBool v48 fun b50 => asNil l49 (.ret .normal [(.bool b50)])) (.fail)

noncomputable def T58k10 : Ex → List Value → Pg :=
  fun e51 l52 => sw e51 .normal (asCons l52 fun v53 l54 => asBool v53 fun b55 => asNil l54 (.ret .normal [(.bool b55)])) (.fail)

noncomputable def T58k11 : Ex → List Value → Pg :=
  fun e56 l57 => sw e56 .normal (asCons l57 fun v58 l59 => asBool v58 fun b60 => asNil l59 (.ret .normal [(.bool b60)])) (.fail)

noncomputable def T58k12 : Ex → List Value → Pg :=
  fun e61 l62 => sw e61 .normal (asCons l62 fun v63 l64 => asBool v63 fun b65 => asNil l64 (.ret .normal [(.bool b65)])) (.fail)

noncomputable def T58k13 : Ex → List Value → Pg :=
  fun e66 l67 => sw e66 .normal (asCons l67 fun v68 l69 => asBool v68 fun b70 => asNil l69 (.ret .normal [(.bool b70)])) (.fail)

noncomputable def T58k14 : Ex → List Value → Pg :=
  fun e71 l72 => sw e71 .normal (asCons l72 fun v73 l74 => asBool v73 fun b75 => asNil l74 (.ret .normal [(.bool b75)])) (.fail)

noncomputable def T58k15 : Ex → List Value → Pg :=
  fun e76 l77 => sw e76 .normal (asCons l77 fun v78 l79 => asBool v78 fun b80 => asNil l79 (.ret .normal [(.bool b80)])) (.fail)

noncomputable def T58k16 : Ex → List Value → Pg :=
  fun e81 l82 => sw e81 .normal (asCons l82 fun v83 l84 => asBool v83 fun b85 => asNil l84 (.ret .normal [(.bool b85)])) (.fail)

noncomputable def T58k17 : Ex → List Value → Pg :=
  fun e86 l87 => sw e86 .normal (asCons l87 fun v88 l89 => asBool v88 fun b90 => asNil l89 (bif b90 then (.ret .ret [(.bool true)]) else (.ret .normal [(.bool false)]))) (.fail)

noncomputable def T58k18 : Ex → List Value → Pg :=
  fun e91 l92 => sw e91 .ret (asCons l92 fun v93 l94 => asBool v93 fun b95 => asNil l94 (.ret .ret [(.bool b95)])) (sw e91 .normal (asCons l92 fun v96 l97 => asBool v96 fun b98 => asNil l97 (.ret .ret [(.bool false)])) (.fail))

/-- hindsight/lex.IsKey -/
noncomputable def T58 (s0 : ByteArray) : Pg :=
  .join (.join (bif (s0.toList == (bs [116, 121, 112, 101]).toList) then (.ret .normal [(.bool (s0.toList == (bs [116, 121, 112, 101]).toList))]) else (.join (bif (s0.toList == (bs [111, 102]).toList) then (.ret .normal [(.bool (s0.toList == (bs [111, 102]).toList))]) else (.join (bif (s0.toList == (bs [108, 101, 116]).toList) then (.ret .normal [(.bool (s0.toList == (bs [108, 101, 116]).toList))]) else (.join (bif (s0.toList == (bs [114, 101, 99]).toList) then (.ret .normal [(.bool (s0.toList == (bs [114, 101, 99]).toList))]) else (.join (bif (s0.toList == (bs [105, 110]).toList) then (.ret .normal [(.bool (s0.toList == (bs [105, 110]).toList))]) else (.join (bif (s0.toList == (bs [102, 117, 110]).toList) then (.ret .normal [(.bool (s0.toList == (bs [102, 117, 110]).toList))]) else (.join (bif (s0.toList == (bs [105, 102]).toList) then (.ret .normal [(.bool (s0.toList == (bs [105, 102]).toList))]) else (.join (bif (s0.toList == (bs [116, 104, 101, 110]).toList) then (.ret .normal [(.bool (s0.toList == (bs [116, 104, 101, 110]).toList))]) else (.join (bif (s0.toList == (bs [101, 108, 115, 101]).toList) then (.ret .normal [(.bool (s0.toList == (bs [101, 108, 115, 101]).toList))]) else (.join (bif (s0.toList == (bs [109, 97, 116, 99, 104]).toList) then (.ret .normal [(.bool (s0.toList == (bs [109, 97, 116, 99, 104]).toList))]) else (.join (bif (s0.toList == (bs [119, 105, 116, 104]).toList) then (.ret .normal [(.bool (s0.toList == (bs [119, 105, 116, 104]).toList))]) else (.join (bif (s0.toList == (bs [101, 110, 100]).toList) then (.ret .normal [(.bool (s0.toList == (bs [101, 110, 100]).toList))]) else (.join (bif (s0.toList == (bs [114, 101, 102]).toList) then (.ret .normal [(.bool (s0.toList == (bs [114, 101, 102]).toList))]) else (.join (bif (s0.toList == (bs [112, 114, 105, 110, 116]).toList) then (.ret .normal [(.bool (s0.toList == (bs [112, 114, 105, 110, 116]).toList))]) else (.join (bif (s0.toList == (bs [114, 101, 97, 100]).toList) then (.ret .normal [(.bool (s0.toList == (bs [114, 101, 97, 100]).toList))]) else (.join (bif (s0.toList == (bs [114, 97, 105, 115, 101]).toList) then (.ret .normal [(.bool (s0.toList == (bs [114, 97, 105, 115, 101]).toList))]) else (.join (bif (s0.toList == (bs [116, 114, 121]).toList) then (.ret .normal [(.bool (s0.toList == (bs [116, 114, 121]).toList))]) else (.join (bif (s0.toList == (bs [116, 114, 117, 101]).toList) then (.ret .normal [(.bool (s0.toList == (bs [116, 114, 117, 101]).toList))]) else (.ret .normal [(.bool (s0.toList == (bs [102, 97, 108, 115, 101]).toList))])) (T58k0))) (T58k1))) (T58k2))) (T58k3))) (T58k4))) (T58k5))) (T58k6))) (T58k7))) (T58k8))) (T58k9))) (T58k10))) (T58k11))) (T58k12))) (T58k13))) (T58k14))) (T58k15))) (T58k16))) (T58k17)) (T58k18)
theorem T58_eq (s0 : ByteArray) : progOf PROG false 58 [(.string s0)] = T58 s0 := by kernel_rfl

noncomputable def A4 : List Value → Option Pg
  | [(.string s0)] => some (T4 s0)
  | _ => none
theorem A4_ok : ∀ args p, A4 args = some p → progOf PROG false 4 args = p := by
  intro args p h
  unfold A4 at h
  split at h
  · cases h; exact T4_eq _
  · cases h
noncomputable def A5 : List Value → Option Pg
  | [(.string s0), (.int .i64 i1)] => some (T5 s0 i1)
  | _ => none
theorem A5_ok : ∀ args p, A5 args = some p → progOf PROG false 5 args = p := by
  intro args p h
  unfold A5 at h
  split at h
  · cases h; exact T5_eq _ _
  · cases h
noncomputable def A6 : List Value → Option Pg
  | [(.string s0)] => some (T6 s0)
  | _ => none
theorem A6_ok : ∀ args p, A6 args = some p → progOf PROG false 6 args = p := by
  intro args p h
  unfold A6 at h
  split at h
  · cases h; exact T6_eq _
  · cases h
noncomputable def A9 : List Value → Option Pg
  | [] => some (T9)
  | _ => none
theorem A9_ok : ∀ args p, A9 args = some p → progOf PROG false 9 args = p := by
  intro args p h
  unfold A9 at h
  split at h
  · cases h; exact T9_eq 
  · cases h
noncomputable def A10 : List Value → Option Pg
  | [(.string s0)] => some (T10 s0)
  | _ => none
theorem A10_ok : ∀ args p, A10 args = some p → progOf PROG false 10 args = p := by
  intro args p h
  unfold A10 at h
  split at h
  · cases h; exact T10_eq _
  · cases h
noncomputable def A17 : List Value → Option Pg
  | [(.string s0)] => some (T17 s0)
  | _ => none
theorem A17_ok : ∀ args p, A17 args = some p → progOf PROG false 17 args = p := by
  intro args p h
  unfold A17 at h
  split at h
  · cases h; exact T17_eq _
  · cases h
noncomputable def A18 : List Value → Option Pg
  | [(.string s0)] => some (T18 s0)
  | _ => none
theorem A18_ok : ∀ args p, A18 args = some p → progOf PROG false 18 args = p := by
  intro args p h
  unfold A18 at h
  split at h
  · cases h; exact T18_eq _
  · cases h
noncomputable def A32 : List Value → Option Pg
  | [(.string s0), v1] => some (T32 s0 v1)
  | _ => none
theorem A32_ok : ∀ args p, A32 args = some p → progOf PROG false 32 args = p := by
  intro args p h
  unfold A32 at h
  split at h
  · cases h; exact T32_eq _ _
  · cases h
noncomputable def A33 : List Value → Option Pg
  | [(.int .i32 i0)] => some (T33 i0)
  | _ => none
theorem A33_ok : ∀ args p, A33 args = some p → progOf PROG false 33 args = p := by
  intro args p h
  unfold A33 at h
  split at h
  · cases h; exact T33_eq _
  · cases h
noncomputable def A34 : List Value → Option Pg
  | [(.int .i32 i0)] => some (T34 i0)
  | _ => none
theorem A34_ok : ∀ args p, A34 args = some p → progOf PROG false 34 args = p := by
  intro args p h
  unfold A34 at h
  split at h
  · cases h; exact T34_eq _
  · cases h
noncomputable def A35 : List Value → Option Pg
  | [(.string s0), (.string s1)] => some (T35 s0 s1)
  | _ => none
theorem A35_ok : ∀ args p, A35 args = some p → progOf PROG false 35 args = p := by
  intro args p h
  unfold A35 at h
  split at h
  · cases h; exact T35_eq _ _
  · cases h
noncomputable def A36 : List Value → Option Pg
  | [(.string s0)] => some (T36 s0)
  | _ => none
theorem A36_ok : ∀ args p, A36 args = some p → progOf PROG false 36 args = p := by
  intro args p h
  unfold A36 at h
  split at h
  · cases h; exact T36_eq _
  · cases h
noncomputable def A38 : List Value → Option Pg
  | [(.string s0)] => some (T38 s0)
  | _ => none
theorem A38_ok : ∀ args p, A38 args = some p → progOf PROG false 38 args = p := by
  intro args p h
  unfold A38 at h
  split at h
  · cases h; exact T38_eq _
  · cases h
noncomputable def A39 : List Value → Option Pg
  | [(.int .i32 i0)] => some (T39 i0)
  | _ => none
theorem A39_ok : ∀ args p, A39 args = some p → progOf PROG false 39 args = p := by
  intro args p h
  unfold A39 at h
  split at h
  · cases h; exact T39_eq _
  · cases h
noncomputable def A40 : List Value → Option Pg
  | [(.string s0)] => some (T40 s0)
  | _ => none
theorem A40_ok : ∀ args p, A40 args = some p → progOf PROG false 40 args = p := by
  intro args p h
  unfold A40 at h
  split at h
  · cases h; exact T40_eq _
  · cases h
noncomputable def A41 : List Value → Option Pg
  | [(.string s0)] => some (T41 s0)
  | _ => none
theorem A41_ok : ∀ args p, A41 args = some p → progOf PROG false 41 args = p := by
  intro args p h
  unfold A41 at h
  split at h
  · cases h; exact T41_eq _
  · cases h
noncomputable def A47 : List Value → Option Pg
  | [(.string s0)] => some (T47 s0)
  | _ => none
theorem A47_ok : ∀ args p, A47 args = some p → progOf PROG false 47 args = p := by
  intro args p h
  unfold A47 at h
  split at h
  · cases h; exact T47_eq _
  · cases h
noncomputable def A55 : List Value → Option Pg
  | [(.string s0), (.string s1)] => some (T55 s0 s1)
  | _ => none
theorem A55_ok : ∀ args p, A55 args = some p → progOf PROG false 55 args = p := by
  intro args p h
  unfold A55 at h
  split at h
  · cases h; exact T55_eq _ _
  · cases h
noncomputable def A57 : List Value → Option Pg
  | [(.int .i32 i0)] => some (T57 i0)
  | _ => none
theorem A57_ok : ∀ args p, A57 args = some p → progOf PROG false 57 args = p := by
  intro args p h
  unfold A57 at h
  split at h
  · cases h; exact T57_eq _
  · cases h
noncomputable def A58 : List Value → Option Pg
  | [(.string s0)] => some (T58 s0)
  | _ => none
theorem A58_ok : ∀ args p, A58 args = some p → progOf PROG false 58 args = p := by
  intro args p h
  unfold A58 at h
  split at h
  · cases h; exact T58_eq _
  · cases h
noncomputable def TAB : Tab := (.low 34 (.low 10 (.low 5 (.one 4 A4 (.one 5 A5 .nil)) (.one 6 A6 (.one 9 A9 (.one 10 A10 .nil)))) (.low 18 (.one 17 A17 (.one 18 A18 .nil)) (.one 32 A32 (.one 33 A33 (.one 34 A34 .nil))))) (.low 40 (.low 36 (.one 35 A35 (.one 36 A36 .nil)) (.one 38 A38 (.one 39 A39 (.one 40 A40 .nil)))) (.low 47 (.one 41 A41 (.one 47 A47 .nil)) (.one 55 A55 (.one 57 A57 (.one 58 A58 .nil))))))
theorem TAB_ok : TabOK PROG TAB := (.low (.low (.low (.one A4_ok (.one A5_ok .nil)) (.one A6_ok (.one A9_ok (.one A10_ok .nil)))) (.low (.one A17_ok (.one A18_ok .nil)) (.one A32_ok (.one A33_ok (.one A34_ok .nil))))) (.low (.low (.one A35_ok (.one A36_ok .nil)) (.one A38_ok (.one A39_ok (.one A40_ok .nil)))) (.low (.one A41_ok (.one A47_ok .nil)) (.one A55_ok (.one A57_ok (.one A58_ok .nil))))))

end Go.Pg
