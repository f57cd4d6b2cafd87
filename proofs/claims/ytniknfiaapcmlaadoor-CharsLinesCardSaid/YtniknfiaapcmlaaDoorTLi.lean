/- The trees of the functions that the laws reach, written out by program; each is shown to be the function's own; then their table. -/
import Derived.Test.YtniknfiaapcmlaaDoorProg
import Derived.KernelRfl
import Derived.Test.YtniknfiaapcmlaaDoorPg3
namespace Go.Pg
open Go.Proofs
set_option linter.unusedVariables false
noncomputable abbrev PROG : Program := Tryd.prog
noncomputable def T6k0 (s15 : ByteArray) (i7 : Int) : Ex → List Value → Pg :=
  fun e19 l20 => sw e19 .normal (asCons l20 fun v21 l22 => asStr v21 fun s23 => asNil l22 (grd (Nat.ble (s23.size + s15.size) 9223372036854775807) (.ret .normal [(.int .i64 (wi64 (i7 + 1))), (.string (s23 ++ s15))]))) (.fail)

noncomputable def T6k1 : Ex → List Value → Pg :=
  fun e24 l25 => sw e24 (.exit 0) (asCons l25 fun v26 l27 => asInt .i64 v26 fun i28 => asCons l27 fun v29 l30 => asStr v29 fun s31 => asNil l30 (.ret (.exit 0) [(.int .i64 i28), (.string s31)])) (sw e24 .normal (asCons l25 fun v32 l33 => asInt .i64 v32 fun i34 => asCons l33 fun v35 l36 => asStr v35 fun s37 => asNil l36 (.ret .normal [(.int .i64 i34), (.string s37)])) (.fail))

noncomputable def T6b0 (s0 : ByteArray) : List Value → Pg :=
  fun l4 => asCons l4 fun v5 l6 => asInt .i64 v5 fun i7 => asCons l6 fun v8 l9 => asStr v8 fun s10 => asNil l9 (bif (decide (i7 ≤ (wi64 (((s0.size : Nat) : Int) + 2)))) then (.join (.call 15 [(.string s0), (.int .i64 i7)] fun v11 => asTuple v11 fun l12 => asCons l12 fun v13 l14 => asStr v13 fun s15 => asCons l14 fun v16 l17 => asBool v16 fun b18 => asNil l17 (bif (!b18) then (.ret (.exit 0) [(.int .i64 i7), (.string s10)]) else (.join (bif (decide (i7 > 1)) then (grd (Nat.ble (s10.size + 1) 9223372036854775807) (.ret .normal [(.string (s10 ++ (bs [10])))])) else (.ret .normal [(.string s10)])) (T6k0 s15 i7)))) (T6k1)) else (.ret (.exit 0) [(.int .i64 i7), (.string s10)]))

noncomputable def T6k2 : Ex → List Value → Pg :=
  fun e64 l65 => sw e64 .normal (asCons l65 fun v66 l67 => asBool v66 fun b68 => asNil l67 (.ret .ret [(.bool b68)])) (.fail)

noncomputable def T6k3 (s0 : ByteArray) (i1 : Int) : Ex → List Value → Pg :=
  fun e38 l39 => sw e38 (.exit 0) (asCons l39 fun v40 l41 => asInt .i64 v40 fun i42 => asCons l41 fun v43 l44 => asStr v43 fun s45 => asNil l44 (.call 11 [(.string s0), (.int .i64 i1)] fun v46 => asTuple v46 fun l47 => asCons l47 fun v48 l49 => asInt .i64 v48 fun i50 => asCons l49 fun v51 l52 => asInt .i64 v51 fun i53 => asNil l52 (.call 15 [(.string s0), (.int .i64 i50)] fun v54 => asTuple v54 fun l55 => asCons l55 fun v56 l57 => asStr v56 fun s58 => asCons l57 fun v59 l60 => asBool v59 fun b61 => asNil l60 (.join (bif (((((s45.toList == s0.toList) && (decide (i50 ≥ 1))) && (decide (i50 < i42))) && b61) && (decide (i53 ≥ 1))) == true then (.call 10 [(.string s58)] fun v62 => asInt .i64 v62 fun i63 => .ret .normal [(.bool (decide (i53 ≤ (wi64 (i63 + 1)))))]) else (.ret .normal [(.bool false)])) (T6k2))))) (.fail)

/-- hindsight/hindsightlaw1.CharsLines -/
noncomputable def T6 (s0 : ByteArray) (i1 : Int) : Pg :=
  .call 9 [] fun v2 => asBool v2 fun b3 => bif (!b3) then (.ret .ret [(.bool false)]) else (bif (decide (((s0.size : Nat) : Int) > 300)) then (.ret .ret [(.bool true)]) else (.loop [(.int .i64 1), (.string (bs []))] (T6b0 s0) (T6k3 s0 i1)))
theorem T6_eq (s0 : ByteArray) (i1 : Int) : progOf PROG false 6 [(.string s0), (.int .i64 i1)] = T6 s0 i1 := by kernel_rfl


noncomputable def T8k0 : Ex → List Value → Pg :=
  fun e50 l51 => sw e50 .normal (asCons l51 fun v52 l53 => asBool v52 fun b54 => asNil l53 (.ret .ret [(.bool b54)])) (.fail)

/-- hindsight/hindsightlaw1.CharsSays -/
noncomputable def T8 (s0 : ByteArray) (i1 : Int) (i2 : Int) (i3 : Int) : Pg :=
  .call 9 [] fun v4 => asBool v4 fun b5 => bif (!b5) then (.ret .ret [(.bool false)]) else (bif (decide (((s0.size : Nat) : Int) > 300)) then (.ret .ret [(.bool true)]) else (.call 11 [(.string s0), (.int .i64 i2)] fun v6 => asTuple v6 fun l7 => asCons l7 fun v8 l9 => asInt .i64 v8 fun i10 => asCons l9 fun v11 l12 => asInt .i64 v11 fun i13 => asNil l12 (.call 16 [(.string s0), (.int .i64 i2)] fun v14 => asTuple v14 fun l15 => asCons l15 fun v16 l17 => asInt .i64 v16 fun i18 => asCons l17 fun v19 l20 => asInt .i64 v19 fun i21 => asNil l20 (.call 15 [(.string s0), (.int .i64 i3)] fun v22 => asTuple v22 fun l23 => asCons l23 fun v24 l25 => asStr v24 fun s26 => asCons l25 fun v27 l28 => asBool v27 fun b29 => asNil l28 (.call 17 [(.string s0), (.int .i64 i3)] fun v30 => asTuple v30 fun l31 => asCons l31 fun v32 l33 => asStr v32 fun s34 => asCons l33 fun v35 l36 => asBool v35 fun b37 => asNil l36 (.join (.call 12 [(.int .i32 i1)] fun v38 => asInt .i64 v38 fun i39 => .call 14 [(.int .i32 i1)] fun v40 => asInt .i64 v40 fun i41 => bif (((((i39 == i41) && (i10 == i18)) && (i13 == i21)) && (s26.toList == s34.toList)) && (b29 == b37)) == true then (.call 10 [(.string s0)] fun v42 => asInt .i64 v42 fun i43 => .call 18 [(.string s0)] fun v44 => asInt .i64 v44 fun i45 => bif (i43 == i45) == true then (.call 13 [(.string s0)] fun v46 => asBool v46 fun b47 => .call 19 [(.string s0)] fun v48 => asBool v48 fun b49 => .ret .normal [(.bool (b47 == b49))]) else (.ret .normal [(.bool false)])) else (.ret .normal [(.bool false)])) (T8k0)))))))
theorem T8_eq (s0 : ByteArray) (i1 : Int) (i2 : Int) (i3 : Int) : progOf PROG false 8 [(.string s0), (.int .i32 i1), (.int .i64 i2), (.int .i64 i3)] = T8 s0 i1 i2 i3 := by kernel_rfl


noncomputable def T9k0 : Ex → List Value → Pg :=
  fun e14 l15 => sw e14 .normal (asCons l15 fun v16 l17 => asBool v16 fun b18 => asNil l17 (.ret .ret [(.bool b18)])) (.fail)

/-- hindsight/hindsightlaw1.awake -/
noncomputable def T9 : Pg :=
  .call 11 [(.string (bs [97, 10, 98, 99])), (.int .i64 3)] fun v0 => asTuple v0 fun l1 => asCons l1 fun v2 l3 => asInt .i64 v2 fun i4 => asCons l3 fun v5 l6 => asInt .i64 v5 fun i7 => asNil l6 (.join (bif ((i4 == 2) && (i7 == 2)) == true then (.call 12 [(.int .i32 97)] fun v8 => asInt .i64 v8 fun i9 => bif (i9 == 1) == true then (.call 12 [(.int .i32 40)] fun v10 => asInt .i64 v10 fun i11 => bif (i11 == 4) == true then (.call 10 [(.string (bs [195, 169, 120]))] fun v12 => asInt .i64 v12 fun i13 => .ret .normal [(.bool (i13 == 2))]) else (.ret .normal [(.bool false)])) else (.ret .normal [(.bool false)])) else (.ret .normal [(.bool false)])) (T9k0))
theorem T9_eq : progOf PROG false 9 [] = T9 := by kernel_rfl


noncomputable def T10k0 : Ex → List Value → Pg :=
  fun e11 l12 => sw e11 .normal (asCons l12 fun v13 l14 => asInt .i64 v13 fun i15 => asNil l14 (.ret .normal [(.int .i64 i15)])) (.fail)

noncomputable def T10b0 (a3 : Addr) : List Value → Pg :=
  fun l4 => asCons l4 fun v5 l6 => asInt .i64 v5 fun i7 => asNil l6 (.act (nxt (some a3)) fun v8 => asNx v8 (fun i9 i10 => .join (.ret .normal [(.int .i64 (wi64 (i7 + 1)))]) (T10k0)) (.ret (.exit 0) [(.int .i64 i7)]))

noncomputable def T10k1 : Ex → List Value → Pg :=
  fun e16 l17 => sw e16 (.exit 0) (asCons l17 fun v18 l19 => asInt .i64 v18 fun i20 => asNil l19 (.ret .ret [(.int .i64 i20)])) (.fail)

/-- hindsight/chars.Runes -/
noncomputable def T10 (s0 : ByteArray) : Pg :=
  .act (rng s0) fun v1 => asPtr v1 fun p2 => asSome p2 fun a3 => .loop [(.int .i64 0)] (T10b0 a3) (T10k1)
theorem T10_eq (s0 : ByteArray) : progOf PROG false 10 [(.string s0)] = T10 s0 := by kernel_rfl


noncomputable def T11k0 : Ex → List Value → Pg :=
  fun e15 l16 => sw e15 .normal (asCons l16 fun v17 l18 => asInt .i64 v17 fun i19 => asCons l18 fun v20 l21 => asInt .i64 v20 fun i22 => asNil l21 (.ret .normal [(.int .i64 i22), (.int .i64 i19)])) (.fail)

noncomputable def T11k1 : Ex → List Value → Pg :=
  fun e23 l24 => sw e23 (.exit 0) (asCons l24 fun v25 l26 => asInt .i64 v25 fun i27 => asCons l26 fun v28 l29 => asInt .i64 v28 fun i30 => asNil l29 (.ret (.exit 0) [(.int .i64 i27), (.int .i64 i30)])) (sw e23 .normal (asCons l24 fun v31 l32 => asInt .i64 v31 fun i33 => asCons l32 fun v34 l35 => asInt .i64 v34 fun i36 => asNil l35 (.ret .normal [(.int .i64 i33), (.int .i64 i36)])) (.fail))

noncomputable def T11b0 (a4 : Addr) (i1 : Int) (s0 : ByteArray) : List Value → Pg :=
  fun l5 => asCons l5 fun v6 l7 => asInt .i64 v6 fun i8 => asCons l7 fun v9 l10 => asInt .i64 v9 fun i11 => asNil l10 (.act (nxt (some a4)) fun v12 => asNx v12 (fun i13 i14 => .join (bif (decide (i13 ≥ (minV (maxV i1 0) ((s0.size : Nat) : Int)))) then (.ret (.exit 0) [(.int .i64 i8), (.int .i64 i11)]) else (.join (bif (i14 == 10) then (.ret .normal [(.int .i64 1), (.int .i64 (wi64 (i8 + 1)))]) else (.ret .normal [(.int .i64 (wi64 (i11 + 1))), (.int .i64 i8)])) (T11k0))) (T11k1)) (.ret (.exit 0) [(.int .i64 i8), (.int .i64 i11)]))

noncomputable def T11k2 : Ex → List Value → Pg :=
  fun e37 l38 => sw e37 (.exit 0) (asCons l38 fun v39 l40 => asInt .i64 v39 fun i41 => asCons l40 fun v42 l43 => asInt .i64 v42 fun i44 => asNil l43 (.ret .ret [(.tuple #[(.int .i64 i41), (.int .i64 i44)])])) (.fail)

/-- hindsight/chars.Pos -/
noncomputable def T11 (s0 : ByteArray) (i1 : Int) : Pg :=
  .act (rng s0) fun v2 => asPtr v2 fun p3 => asSome p3 fun a4 => .loop [(.int .i64 1), (.int .i64 1)] (T11b0 a4 i1 s0) (T11k2)
theorem T11_eq (s0 : ByteArray) (i1 : Int) : progOf PROG false 11 [(.string s0), (.int .i64 i1)] = T11 s0 i1 := by kernel_rfl


noncomputable def T12k0 (i0 : Int) : Ex → List Value → Pg :=
  fun e3 l4 => sw e3 .normal (asCons l4 fun v5 l6 => asBool v5 fun b7 => asNil l6 (bif b7 then (.ret .ret [(.int .i64 1)]) else (bif ((decide (i0 ≥ 48)) && (decide (i0 ≤ 57))) then (.ret .ret [(.int .i64 2)]) else (.ret .normal [(.int .i64 0)])))) (.fail)

noncomputable def T12k1 : Ex → List Value → Pg :=
  fun e16 l17 => sw e16 .normal (asCons l17 fun v18 l19 => asBool v18 fun b20 => asNil l19 (.ret .normal [(.bool b20)])) (.fail)

noncomputable def T12k2 : Ex → List Value → Pg :=
  fun e21 l22 => sw e21 .normal (asCons l22 fun v23 l24 => asBool v23 fun b25 => asNil l24 (.ret .normal [(.bool b25)])) (.fail)

noncomputable def T12k3 : Ex → List Value → Pg :=
  fun e31 l32 => sw e31 .normal (asCons l32 fun v33 l34 => asBool v33 fun b35 => asNil l34 (.ret .normal [(.bool b35)])) (.fail)

noncomputable def T12k4 : Ex → List Value → Pg :=
  fun e36 l37 => sw e36 .normal (asCons l37 fun v38 l39 => asBool v38 fun b40 => asNil l39 (.ret .normal [(.bool b40)])) (.fail)

noncomputable def T12k5 : Ex → List Value → Pg :=
  fun e41 l42 => sw e41 .normal (asCons l42 fun v43 l44 => asBool v43 fun b45 => asNil l44 (.ret .normal [(.bool b45)])) (.fail)

noncomputable def T12k6 : Ex → List Value → Pg :=
  fun e46 l47 => sw e46 .normal (asCons l47 fun v48 l49 => asBool v48 fun b50 => asNil l49 (.ret .normal [(.bool b50)])) (.fail)

noncomputable def T12k7 : Ex → List Value → Pg :=
  fun e51 l52 => sw e51 .normal (asCons l52 fun v53 l54 => asBool v53 fun b55 => asNil l54 (.ret .normal [(.bool b55)])) (.fail)

noncomputable def T12k8 : Ex → List Value → Pg :=
  fun e56 l57 => sw e56 .normal (asCons l57 fun v58 l59 => asBool v58 fun b60 => asNil l59 (.ret .normal [(.bool b60)])) (.fail)

noncomputable def T12k9 : Ex → List Value → Pg :=
  fun e61 l62 => sw e61 .normal (asCons l62 fun v63 l64 => asBool v63 fun b65 => asNil l64 (.ret .normal [(.bool b65)])) (.fail)

noncomputable def T12k10 : Ex → List Value → Pg :=
  fun e66 l67 => sw e66 .normal (asCons l67 fun v68 l69 => asBool v68 fun b70 => asNil l69 (.ret .normal [(.bool b70)])) (.fail)

noncomputable def T12k11 : Ex → List Value → Pg :=
  fun e71 l72 => sw e71 .normal (asCons l72 fun v73 l74 => asBool v73 fun b75 => asNil l74 (.ret .normal [(.bool b75)])) (.fail)

noncomputable def T12k12 : Ex → List Value → Pg :=
  fun e76 l77 => sw e76 .normal (asCons l77 fun v78 l79 => asBool v78 fun b80 => asNil l79 (.ret .normal [(.bool b80)])) (.fail)

noncomputable def T12k13 : Ex → List Value → Pg :=
  fun e81 l82 => sw e81 .normal (asCons l82 fun v83 l84 => asBool v83 fun b85 => asNil l84 (.ret .normal [(.bool b85)])) (.fail)

noncomputable def T12k14 (i15 : Int) : Ex → List Value → Pg :=
  fun e86 l87 => sw e86 .normal (asCons l87 fun v88 l89 => asBool v88 fun b90 => asNil l89 (bif b90 then (.ret .ret [(.int .i64 4)]) else (.ret .normal [(.int .i64 i15)]))) (.fail)

noncomputable def T12k15 (i0 : Int) (i15 : Int) : Ex → List Value → Pg :=
  fun e26 l27 => sw e26 .normal (asCons l27 fun v28 l29 => asBool v28 fun b30 => asNil l29 (bif b30 then (.ret .ret [(.int .i64 3)]) else (.join (bif (i0 == 40) then (.ret .normal [(.bool (i0 == 40))]) else (.join (bif (i0 == 41) then (.ret .normal [(.bool (i0 == 41))]) else (.join (bif (i0 == 44) then (.ret .normal [(.bool (i0 == 44))]) else (.join (bif (i0 == 59) then (.ret .normal [(.bool (i0 == 59))]) else (.join (bif (i0 == 61) then (.ret .normal [(.bool (i0 == 61))]) else (.join (bif (i0 == 60) then (.ret .normal [(.bool (i0 == 60))]) else (.join (bif (i0 == 62) then (.ret .normal [(.bool (i0 == 62))]) else (.join (bif (i0 == 43) then (.ret .normal [(.bool (i0 == 43))]) else (.join (bif (i0 == 45) then (.ret .normal [(.bool (i0 == 45))]) else (.join (bif (i0 == 42) then (.ret .normal [(.bool (i0 == 42))]) else (.join (bif (i0 == 124) then (.ret .normal [(.bool (i0 == 124))]) else (.join (bif (i0 == 33) then (.ret .normal [(.bool (i0 == 33))]) else (.ret .normal [(.bool (i0 == 58))])) (T12k3))) (T12k4))) (T12k5))) (T12k6))) (T12k7))) (T12k8))) (T12k9))) (T12k10))) (T12k11))) (T12k12))) (T12k13))) (T12k14 i15)))) (.fail)

noncomputable def T12k16 : Ex → List Value → Pg :=
  fun e91 l92 => sw e91 .ret (asCons l92 fun v93 l94 => asInt .i64 v93 fun i95 => asNil l94 (.ret .ret [(.int .i64 i95)])) (sw e91 .normal (asCons l92 fun v96 l97 => asInt .i64 v96 fun i98 => asNil l97 (.ret .ret [(.int .i64 0)])) (.fail))

noncomputable def T12k17 (i0 : Int) : Ex → List Value → Pg :=
  fun e8 l9 => sw e8 .ret (asCons l9 fun v10 l11 => asInt .i64 v10 fun i12 => asNil l11 (.ret .ret [(.int .i64 i12)])) (sw e8 .normal (asCons l9 fun v13 l14 => asInt .i64 v13 fun i15 => asNil l14 (.join (.join (bif (i0 == 32) then (.ret .normal [(.bool (i0 == 32))]) else (.join (bif (i0 == 9) then (.ret .normal [(.bool (i0 == 9))]) else (.join (bif (i0 == 10) then (.ret .normal [(.bool (i0 == 10))]) else (.ret .normal [(.bool (i0 == 13))])) (T12k1))) (T12k2))) (T12k15 i0 i15)) (T12k16))) (.fail))

/-- hindsight/chars.Class -/
noncomputable def T12 (i0 : Int) : Pg :=
  .join (.join (bif ((i0 == 95) || (i0 == 39)) == false then (.call 20 [(.int .i32 i0)] fun v1 => asBool v1 fun b2 => .ret .normal [(.bool b2)]) else (.ret .normal [(.bool true)])) (T12k0 i0)) (T12k17 i0)
theorem T12_eq (i0 : Int) : progOf PROG false 12 [(.int .i32 i0)] = T12 i0 := by kernel_rfl


noncomputable def T13k0 : Ex → List Value → Pg :=
  fun e13 l14 => sw e13 .ret (asCons l14 fun v15 l16 => asBool v15 fun b17 => asNil l16 (.ret .ret [(.bool b17)])) (.fail)

noncomputable def T13b0 (a3 : Addr) : List Value → Pg :=
  fun l4 => asCons l4 fun v5 l6 => asBool v5 fun b7 => asNil l6 (.act (nxt (some a3)) fun v8 => asNx v8 (fun i9 i10 => .join (.call 21 [(.int .i32 i10)] fun v11 => asBool v11 fun b12 => .ret .ret [(.bool b12)]) (T13k0)) (.ret (.exit 0) [(.bool b7)]))

noncomputable def T13k1 : Ex → List Value → Pg :=
  fun e18 l19 => sw e18 (.exit 0) (asCons l19 fun v20 l21 => asBool v20 fun b22 => asNil l21 (.ret .ret [(.bool false)])) (sw e18 .ret (asCons l19 fun v23 l24 => asBool v23 fun b25 => asNil l24 (.ret .ret [(.bool b25)])) (.fail))

/-- hindsight/chars.Upper -/
noncomputable def T13 (s0 : ByteArray) : Pg :=
  .act (rng s0) fun v1 => asPtr v1 fun p2 => asSome p2 fun a3 => .loop [(.bool false)] (T13b0 a3) (T13k1)
theorem T13_eq (s0 : ByteArray) : progOf PROG false 13 [(.string s0)] = T13 s0 := by kernel_rfl


noncomputable def T14k0 (i0 : Int) : Ex → List Value → Pg :=
  fun e3 l4 => sw e3 .normal (asCons l4 fun v5 l6 => asBool v5 fun b7 => asNil l6 (bif b7 then (.ret .ret [(.int .i64 1)]) else (bif ((decide (i0 ≥ 48)) && (decide (i0 ≤ 57))) then (.ret .ret [(.int .i64 2)]) else (bif ((((i0 == 32) || (i0 == 9)) || (i0 == 10)) || (i0 == 13)) then (.ret .ret [(.int .i64 3)]) else (.ret .normal [(.int .i64 0)]))))) (.fail)

noncomputable def T14k1 (i19 : Int) : Ex → List Value → Pg :=
  fun e23 l24 => sw e23 .ret (asCons l24 fun v25 l26 => asInt .i64 v25 fun i27 => asNil l26 (.ret .ret [(.int .i64 i19), (.int .i64 i27)])) (sw e23 .normal (asCons l24 fun v28 l29 => asInt .i64 v28 fun i30 => asNil l29 (.ret .normal [(.int .i64 (wi64 (i19 + 1))), (.int .i64 i30)])) (.fail))

noncomputable def T14b0 (i0 : Int) : List Value → Pg :=
  fun l16 => asCons l16 fun v17 l18 => asInt .i64 v17 fun i19 => asCons l18 fun v20 l21 => asInt .i64 v20 fun i22 => asNil l21 (bif (decide (i19 < 13)) then (.join (grd ((decide (0 ≤ i19)) && (decide (i19 < 13))) (bif (i0 == (wi32 (byteAt (bs [40, 41, 44, 59, 61, 60, 62, 43, 45, 42, 124, 33, 58]) (Int.toNat i19)))) then (.ret .ret [(.int .i64 4)]) else (.ret .normal [(.int .i64 i22)]))) (T14k1 i19)) else (.ret (.exit 1) [(.int .i64 i19), (.int .i64 i22)]))

noncomputable def T14k2 : Ex → List Value → Pg :=
  fun e31 l32 => sw e31 (.exit 1) (asCons l32 fun v33 l34 => asInt .i64 v33 fun i35 => asCons l34 fun v36 l37 => asInt .i64 v36 fun i38 => asNil l37 (.ret .ret [(.int .i64 0)])) (sw e31 .ret (asCons l32 fun v39 l40 => asInt .i64 v39 fun i41 => asCons l40 fun v42 l43 => asInt .i64 v42 fun i44 => asNil l43 (.ret .ret [(.int .i64 i44)])) (.fail))

noncomputable def T14k3 (i0 : Int) : Ex → List Value → Pg :=
  fun e8 l9 => sw e8 .ret (asCons l9 fun v10 l11 => asInt .i64 v10 fun i12 => asNil l11 (.ret .ret [(.int .i64 i12)])) (sw e8 .normal (asCons l9 fun v13 l14 => asInt .i64 v13 fun i15 => asNil l14 (.loop [(.int .i64 0), (.int .i64 i15)] (T14b0 i0) (T14k2))) (.fail))

/-- hindsight/hindsightref1.Class -/
noncomputable def T14 (i0 : Int) : Pg :=
  .join (.join (bif ((i0 == 95) || (i0 == 39)) == false then (.call 20 [(.int .i32 i0)] fun v1 => asBool v1 fun b2 => .ret .normal [(.bool b2)]) else (.ret .normal [(.bool true)])) (T14k0 i0)) (T14k3 i0)
theorem T14_eq (i0 : Int) : progOf PROG false 14 [(.int .i32 i0)] = T14 i0 := by kernel_rfl


noncomputable def T15k0 (p3 : (Option Addr)) (i1 : Int) (n4 : Nat) : Ex → List Value → Pg :=
  fun e6 l7 => sw e6 .normal (asCons l7 fun v8 l9 => asBool v8 fun b10 => asNil l9 (bif b10 then (.ret .ret [(.tuple #[(.string (bs [])), (.bool false)])]) else (asSome p3 fun a11 => grd ((decide (0 ≤ (wi64 (i1 - 1)))) && (decide ((wi64 (i1 - 1)) < ((n4 : Nat) : Int)))) (.act (ld1 (aadd a11 ((Int.toNat (wi64 (i1 - 1))) * 1))) fun v12 => asStr v12 fun s13 => .ret .ret [(.tuple #[(.string s13), (.bool true)])])))) (.fail)

/-- hindsight/chars.Line -/
noncomputable def T15 (s0 : ByteArray) (i1 : Int) : Pg :=
  .call 22 [(.string s0), (.string (bs [10]))] fun v2 => asSlice v2 fun p3 n4 n5 => .join (bif (decide (i1 < 1)) == false then (.ret .normal [(.bool (decide (i1 > ((n4 : Nat) : Int))))]) else (.ret .normal [(.bool true)])) (T15k0 p3 i1 n4)
theorem T15_eq (s0 : ByteArray) (i1 : Int) : progOf PROG false 15 [(.string s0), (.int .i64 i1)] = T15 s0 i1 := by kernel_rfl


noncomputable def T16k0 : Ex → List Value → Pg :=
  fun e22 l23 => sw e22 .normal (asCons l23 fun v24 l25 => asInt .i64 v24 fun i26 => asCons l25 fun v27 l28 => asInt .i64 v27 fun i29 => asNil l28 (.ret .normal [(.int .i64 i26), (.int .i64 i29)])) (.fail)

noncomputable def T16k1 (i15 : Int) : Ex → List Value → Pg :=
  fun e30 l31 => sw e30 .normal (asCons l31 fun v32 l33 => asInt .i64 v32 fun i34 => asCons l33 fun v35 l36 => asInt .i64 v35 fun i37 => asNil l36 (.ret .normal [(.int .i64 (wi64 (i15 + 1))), (.int .i64 i34), (.int .i64 i37)])) (.fail)

noncomputable def T16b0 (i11 : Int) (s0 : ByteArray) : List Value → Pg :=
  fun l12 => asCons l12 fun v13 l14 => asInt .i64 v13 fun i15 => asCons l14 fun v16 l17 => asInt .i64 v16 fun i18 => asCons l17 fun v19 l20 => asInt .i64 v19 fun i21 => asNil l20 (bif (decide (i15 < i11)) then (.join (grd ((decide (0 ≤ i15)) && (decide (i15 < ((s0.size : Nat) : Int)))) (.join (bif ((byteAt s0 (Int.toNat i15)) == 10) then (.ret .normal [(.int .i64 (wi64 (i15 + 1))), (.int .i64 (wi64 (i21 + 1)))]) else (.ret .normal [(.int .i64 i18), (.int .i64 i21)])) (T16k0))) (T16k1 i15)) else (.ret (.exit 0) [(.int .i64 i15), (.int .i64 i18), (.int .i64 i21)]))

noncomputable def T16k2 : Ex → List Value → Pg :=
  fun e59 l60 => sw e59 .normal (asCons l60 fun v61 l62 => asInt .i64 v61 fun i63 => asNil l62 (.ret .normal [(.int .i64 i63)])) (.fail)

noncomputable def T16k3 : Ex → List Value → Pg :=
  fun e64 l65 => sw e64 .normal (asCons l65 fun v66 l67 => asInt .i64 v66 fun i68 => asNil l67 (.ret .normal [(.int .i64 i68)])) (.fail)

noncomputable def T16b1 (a51 : Addr) (i45 : Int) (i11 : Int) : List Value → Pg :=
  fun l52 => asCons l52 fun v53 l54 => asInt .i64 v53 fun i55 => asNil l54 (.act (nxt (some a51)) fun v56 => asNx v56 (fun i57 i58 => .join (.join (bif (decide ((wi64 (i45 + i57)) < i11)) then (.ret .normal [(.int .i64 (wi64 (i55 + 1)))]) else (.ret .normal [(.int .i64 i55)])) (T16k2)) (T16k3)) (.ret (.exit 2) [(.int .i64 i55)]))

noncomputable def T16k4 (i48 : Int) : Ex → List Value → Pg :=
  fun e69 l70 => sw e69 (.exit 2) (asCons l70 fun v71 l72 => asInt .i64 v71 fun i73 => asNil l72 (.ret .ret [(.tuple #[(.int .i64 i48), (.int .i64 i73)])])) (.fail)

noncomputable def T16k5 (s0 : ByteArray) (i11 : Int) : Ex → List Value → Pg :=
  fun e38 l39 => sw e38 (.exit 0) (asCons l39 fun v40 l41 => asInt .i64 v40 fun i42 => asCons l41 fun v43 l44 => asInt .i64 v43 fun i45 => asCons l44 fun v46 l47 => asInt .i64 v46 fun i48 => asNil l47 (grd (((decide (0 ≤ i45)) && (decide (i45 ≤ ((s0.size : Nat) : Int)))) && (decide (((s0.size : Nat) : Int) ≤ ((s0.size : Nat) : Int)))) (.act (rng (s0.extract (Int.toNat i45) s0.size)) fun v49 => asPtr v49 fun p50 => asSome p50 fun a51 => .loop [(.int .i64 1)] (T16b1 a51 i45 i11) (T16k4 i48)))) (.fail)

noncomputable def T16k6 (s0 : ByteArray) : Ex → List Value → Pg :=
  fun e7 l8 => sw e7 .normal (asCons l8 fun v9 l10 => asInt .i64 v9 fun i11 => asNil l10 (.loop [(.int .i64 0), (.int .i64 0), (.int .i64 1)] (T16b0 i11 s0) (T16k5 s0 i11))) (.fail)

noncomputable def T16k7 (s0 : ByteArray) : Ex → List Value → Pg :=
  fun e2 l3 => sw e2 .normal (asCons l3 fun v4 l5 => asInt .i64 v4 fun i6 => asNil l5 (.join (bif (decide (i6 > ((s0.size : Nat) : Int))) then (.ret .normal [(.int .i64 ((s0.size : Nat) : Int))]) else (.ret .normal [(.int .i64 i6)])) (T16k6 s0))) (.fail)

/-- hindsight/hindsightref1.Pos -/
noncomputable def T16 (s0 : ByteArray) (i1 : Int) : Pg :=
  .join (bif (decide (i1 < 0)) then (.ret .normal [(.int .i64 0)]) else (.ret .normal [(.int .i64 i1)])) (T16k7 s0)
theorem T16_eq (s0 : ByteArray) (i1 : Int) : progOf PROG false 16 [(.string s0), (.int .i64 i1)] = T16 s0 i1 := by kernel_rfl


noncomputable def T17k0 (i8 : Int) (i11 : Int) (b14 : Bool) (s17 : ByteArray) (i1 : Int) (i5 : Int) (s0 : ByteArray) : Ex → List Value → Pg :=
  fun e18 l19 => sw e18 .normal (asCons l19 fun v20 l21 => asBool v20 fun b22 => asNil l21 (bif b22 then (.ret .normal [(.int .i64 i8), (.int .i64 i11), (.bool b14), (.string s17)]) else (bif (i11 == i1) then (grd (((decide (0 ≤ i8)) && (decide (i8 ≤ i5))) && (decide (i5 ≤ ((s0.size : Nat) : Int)))) (.ret .ret [(.int .i64 i8), (.int .i64 i11), (.bool true), (.string (s0.extract (Int.toNat i8) (Int.toNat i5)))])) else (.ret .normal [(.int .i64 (wi64 (i5 + 1))), (.int .i64 (wi64 (i11 + 1))), (.bool b14), (.string s17)])))) (.fail)

noncomputable def T17k1 (i5 : Int) : Ex → List Value → Pg :=
  fun e23 l24 => sw e23 .ret (asCons l24 fun v25 l26 => asInt .i64 v25 fun i27 => asCons l26 fun v28 l29 => asInt .i64 v28 fun i30 => asCons l29 fun v31 l32 => asBool v31 fun b33 => asCons l32 fun v34 l35 => asStr v34 fun s36 => asNil l35 (.ret .ret [(.int .i64 i5), (.int .i64 i27), (.int .i64 i30), (.bool b33), (.string s36)])) (sw e23 .normal (asCons l24 fun v37 l38 => asInt .i64 v37 fun i39 => asCons l38 fun v40 l41 => asInt .i64 v40 fun i42 => asCons l41 fun v43 l44 => asBool v43 fun b45 => asCons l44 fun v46 l47 => asStr v46 fun s48 => asNil l47 (.ret .normal [(.int .i64 (wi64 (i5 + 1))), (.int .i64 i39), (.int .i64 i42), (.bool b45), (.string s48)])) (.fail))

noncomputable def T17b0 (s0 : ByteArray) (i1 : Int) : List Value → Pg :=
  fun l2 => asCons l2 fun v3 l4 => asInt .i64 v3 fun i5 => asCons l4 fun v6 l7 => asInt .i64 v6 fun i8 => asCons l7 fun v9 l10 => asInt .i64 v9 fun i11 => asCons l10 fun v12 l13 => asBool v12 fun b14 => asCons l13 fun v15 l16 => asStr v15 fun s17 => asNil l16 (bif (decide (i5 ≤ ((s0.size : Nat) : Int))) then (.join (.join (bif (decide (i5 < ((s0.size : Nat) : Int))) == true then (grd ((decide (0 ≤ i5)) && (decide (i5 < ((s0.size : Nat) : Int)))) (.ret .normal [(.bool ((byteAt s0 (Int.toNat i5)) != 10))])) else (.ret .normal [(.bool false)])) (T17k0 i8 i11 b14 s17 i1 i5 s0)) (T17k1 i5)) else (.ret (.exit 0) [(.int .i64 i5), (.int .i64 i8), (.int .i64 i11), (.bool b14), (.string s17)]))

noncomputable def T17k2 : Ex → List Value → Pg :=
  fun e49 l50 => sw e49 (.exit 0) (asCons l50 fun v51 l52 => asInt .i64 v51 fun i53 => asCons l52 fun v54 l55 => asInt .i64 v54 fun i56 => asCons l55 fun v57 l58 => asInt .i64 v57 fun i59 => asCons l58 fun v60 l61 => asBool v60 fun b62 => asCons l61 fun v63 l64 => asStr v63 fun s65 => asNil l64 (.ret .ret [(.tuple #[(.string (bs [])), (.bool false)])])) (sw e49 .ret (asCons l50 fun v66 l67 => asInt .i64 v66 fun i68 => asCons l67 fun v69 l70 => asInt .i64 v69 fun i71 => asCons l70 fun v72 l73 => asInt .i64 v72 fun i74 => asCons l73 fun v75 l76 => asBool v75 fun b77 => asCons l76 fun v78 l79 => asStr v78 fun s80 => asNil l79 (.ret .ret [(.tuple #[(.string s80), (.bool b77)])])) (.fail))

/-- hindsight/hindsightref1.Line -/
noncomputable def T17 (s0 : ByteArray) (i1 : Int) : Pg :=
  .loop [(.int .i64 0), (.int .i64 0), (.int .i64 1), (.bool false), (.string (bs []))] (T17b0 s0 i1) (T17k2)
theorem T17_eq (s0 : ByteArray) (i1 : Int) : progOf PROG false 17 [(.string s0), (.int .i64 i1)] = T17 s0 i1 := by kernel_rfl


noncomputable def T18k0 : Ex → List Value → Pg :=
  fun e11 l12 => sw e11 .normal (asCons l12 fun v13 l14 => asInt .i64 v13 fun i15 => asNil l14 (.ret .normal [(.int .i64 i15)])) (.fail)

noncomputable def T18b0 (a3 : Addr) : List Value → Pg :=
  fun l4 => asCons l4 fun v5 l6 => asInt .i64 v5 fun i7 => asNil l6 (.act (nxt (some a3)) fun v8 => asNx v8 (fun i9 i10 => .join (.ret .normal [(.int .i64 (wi64 (i7 + 1)))]) (T18k0)) (.ret (.exit 0) [(.int .i64 i7)]))

noncomputable def T18k1 : Ex → List Value → Pg :=
  fun e16 l17 => sw e16 (.exit 0) (asCons l17 fun v18 l19 => asInt .i64 v18 fun i20 => asNil l19 (.ret .ret [(.int .i64 i20)])) (.fail)

/-- hindsight/hindsightref1.Count -/
noncomputable def T18 (s0 : ByteArray) : Pg :=
  .act (rng s0) fun v1 => asPtr v1 fun p2 => asSome p2 fun a3 => .loop [(.int .i64 0)] (T18b0 a3) (T18k1)
theorem T18_eq (s0 : ByteArray) : progOf PROG false 18 [(.string s0)] = T18 s0 := by kernel_rfl


noncomputable def T19k0 : Ex → List Value → Pg :=
  fun e13 l14 => sw e13 .ret (asCons l14 fun v15 l16 => asBool v15 fun b17 => asNil l16 (.ret .ret [(.bool b17)])) (.fail)

noncomputable def T19b0 (a3 : Addr) : List Value → Pg :=
  fun l4 => asCons l4 fun v5 l6 => asBool v5 fun b7 => asNil l6 (.act (nxt (some a3)) fun v8 => asNx v8 (fun i9 i10 => .join (.call 21 [(.int .i32 i10)] fun v11 => asBool v11 fun b12 => .ret .ret [(.bool b12)]) (T19k0)) (.ret (.exit 0) [(.bool b7)]))

noncomputable def T19k1 : Ex → List Value → Pg :=
  fun e18 l19 => sw e18 (.exit 0) (asCons l19 fun v20 l21 => asBool v20 fun b22 => asNil l21 (.ret .ret [(.bool false)])) (sw e18 .ret (asCons l19 fun v23 l24 => asBool v23 fun b25 => asNil l24 (.ret .ret [(.bool b25)])) (.fail))

/-- hindsight/hindsightref1.Upper -/
noncomputable def T19 (s0 : ByteArray) : Pg :=
  .act (rng s0) fun v1 => asPtr v1 fun p2 => asSome p2 fun a3 => .loop [(.bool false)] (T19b0 a3) (T19k1)
theorem T19_eq (s0 : ByteArray) : progOf PROG false 19 [(.string s0)] = T19 s0 := by kernel_rfl


/-- strings.Split -/
noncomputable def T22 (s0 : ByteArray) (s1 : ByteArray) : Pg :=
  .call 24 [(.string s0), (.string s1), (.int .i64 0), (.int .i64 (-1))] fun v2 => asSlice v2 fun p3 n4 n5 => .ret .ret [(.slice p3 n4 n5)]
theorem T22_eq (s0 : ByteArray) (s1 : ByteArray) : progOf PROG false 22 [(.string s0), (.string s1)] = T22 s0 s1 := by kernel_rfl


noncomputable def T24k0 : Ex → List Value → Pg :=
  fun e31 l32 => sw e31 (.exit 0) (asCons l32 fun v33 l34 => asInt .i64 v33 fun i35 => asCons l34 fun v36 l37 => asStr v36 fun s38 => asNil l37 (.ret (.exit 0) [(.int .i64 i35), (.string s38)])) (sw e31 .normal (asCons l32 fun v39 l40 => asInt .i64 v39 fun i41 => asCons l40 fun v42 l43 => asStr v42 fun s44 => asNil l43 (.ret .normal [(.int .i64 i41), (.string s44)])) (.fail))

noncomputable def T24b0 (i14 : Int) (s0 : ByteArray) (s1 : ByteArray) (i2 : Int) (p16 : (Option Addr)) (n17 : Nat) : List Value → Pg :=
  fun l19 => asCons l19 fun v20 l21 => asInt .i64 v20 fun i22 => asCons l21 fun v23 l24 => asStr v23 fun s25 => asNil l24 (bif (decide (i22 < (wi64 ((minV i14 (wi64 (((s0.size : Nat) : Int) + 1))) - 1)))) then (.join (.call 29 [(.string s25), (.string s1)] fun v26 => asInt .i64 v26 fun i27 => bif (decide (i27 < 0)) then (.ret (.exit 0) [(.int .i64 i22), (.string s25)]) else (grd ((decide (0 ≤ (wi64 (i27 + i2)))) && (decide ((wi64 (i27 + i2)) ≤ ((s25.size : Nat) : Int)))) (asSome p16 fun a28 => grd ((decide (0 ≤ i22)) && (decide (i22 < ((n17 : Nat) : Int)))) (.act (stC (aadd a28 ((Int.toNat i22) * 1)) [(.string (s25.extract 0 (Int.toNat (wi64 (i27 + i2)))))]) fun v29 => asTuple v29 fun l30 => asNil l30 (grd (((decide (0 ≤ (wi64 (i27 + ((s1.size : Nat) : Int))))) && (decide ((wi64 (i27 + ((s1.size : Nat) : Int))) ≤ ((s25.size : Nat) : Int)))) && (decide (((s25.size : Nat) : Int) ≤ ((s25.size : Nat) : Int)))) (.ret .normal [(.int .i64 (wi64 (i22 + 1))), (.string (s25.extract (Int.toNat (wi64 (i27 + ((s1.size : Nat) : Int)))) s25.size))])))))) (T24k0)) else (.ret (.exit 0) [(.int .i64 i22), (.string s25)]))

noncomputable def T24k1 (p16 : (Option Addr)) (n17 : Nat) (n18 : Nat) : Ex → List Value → Pg :=
  fun e45 l46 => sw e45 (.exit 0) (asCons l46 fun v47 l48 => asInt .i64 v47 fun i49 => asCons l48 fun v50 l51 => asStr v50 fun s52 => asNil l51 (asSome p16 fun a53 => grd ((decide (0 ≤ i49)) && (decide (i49 < ((n17 : Nat) : Int)))) (.act (stC (aadd a53 ((Int.toNat i49) * 1)) [(.string s52)]) fun v54 => asTuple v54 fun l55 => asNil l55 (grd ((((decide (0 ≤ (wi64 (i49 + 1)))) && (decide ((wi64 (i49 + 1)) ≤ ((n18 : Nat) : Int)))) && (decide (((n18 : Nat) : Int) ≤ ((n18 : Nat) : Int)))) && ((mayCut p16 1) || true)) (.ret .ret [(.slice p16 (Int.toNat (wi64 (i49 + 1))) n18)]))))) (.fail)

noncomputable def T24k2 (s0 : ByteArray) (s1 : ByteArray) (i2 : Int) : Ex → List Value → Pg :=
  fun e10 l11 => sw e10 .normal (asCons l11 fun v12 l13 => asInt .i64 v12 fun i14 => asNil l13 (.act (mkSl 1 16 [(.string (bs []))] (minV i14 (wi64 (((s0.size : Nat) : Int) + 1))) (minV i14 (wi64 (((s0.size : Nat) : Int) + 1)))) fun v15 => asSlice v15 fun p16 n17 n18 => .loop [(.int .i64 0), (.string s0)] (T24b0 i14 s0 s1 i2 p16 n17) (T24k1 p16 n17 n18))) (.fail)

/-- strings.genSplit -/
noncomputable def T24 (s0 : ByteArray) (s1 : ByteArray) (i2 : Int) (i3 : Int) : Pg :=
  bif (i3 == 0) then (.ret .ret [(.slice none 0 0)]) else (bif (s1.toList == (bs []).toList) then (.call 27 [(.string s0), (.int .i64 i3)] fun v4 => asSlice v4 fun p5 n6 n7 => .ret .ret [(.slice p5 n6 n7)]) else (.join (bif (decide (i3 < 0)) then (.call 28 [(.string s0), (.string s1)] fun v8 => asInt .i64 v8 fun i9 => .ret .normal [(.int .i64 (wi64 (i9 + 1)))]) else (.ret .normal [(.int .i64 i3)])) (T24k2 s0 s1 i2)))
theorem T24_eq (s0 : ByteArray) (s1 : ByteArray) (i2 : Int) (i3 : Int) : progOf PROG false 24 [(.string s0), (.string s1), (.int .i64 i2), (.int .i64 i3)] = T24 s0 s1 i2 i3 := by kernel_rfl


noncomputable def T28k0 : Ex → List Value → Pg :=
  fun e16 l17 => sw e16 .ret (asCons l17 fun v18 l19 => asStr v18 fun s20 => asCons l19 fun v21 l22 => asInt .i64 v21 fun i23 => asCons l22 fun v24 l25 => asInt .i64 v24 fun i26 => asNil l25 (.ret .ret [(.string s20), (.int .i64 i23), (.int .i64 i26)])) (sw e16 .normal (asCons l17 fun v27 l28 => asStr v27 fun s29 => asCons l28 fun v30 l31 => asInt .i64 v30 fun i32 => asCons l31 fun v33 l34 => asInt .i64 v33 fun i35 => asNil l34 (.ret .normal [(.string s29), (.int .i64 i32), (.int .i64 i35)])) (.fail))

noncomputable def T28b0 (s1 : ByteArray) : List Value → Pg :=
  fun l4 => asCons l4 fun v5 l6 => asStr v5 fun s7 => asCons l6 fun v8 l9 => asInt .i64 v8 fun i10 => asCons l9 fun v11 l12 => asInt .i64 v11 fun i13 => asNil l12 (.join (.call 29 [(.string s7), (.string s1)] fun v14 => asInt .i64 v14 fun i15 => bif (i15 == (-1)) then (.ret .ret [(.string s7), (.int .i64 i10), (.int .i64 i10)]) else (grd (((decide (0 ≤ (wi64 (i15 + ((s1.size : Nat) : Int))))) && (decide ((wi64 (i15 + ((s1.size : Nat) : Int))) ≤ ((s7.size : Nat) : Int)))) && (decide (((s7.size : Nat) : Int) ≤ ((s7.size : Nat) : Int)))) (.ret .normal [(.string (s7.extract (Int.toNat (wi64 (i15 + ((s1.size : Nat) : Int)))) s7.size)), (.int .i64 (wi64 (i10 + 1))), (.int .i64 i13)]))) (T28k0))

noncomputable def T28k1 : Ex → List Value → Pg :=
  fun e36 l37 => sw e36 .ret (asCons l37 fun v38 l39 => asStr v38 fun s40 => asCons l39 fun v41 l42 => asInt .i64 v41 fun i43 => asCons l42 fun v44 l45 => asInt .i64 v44 fun i46 => asNil l45 (.ret .ret [(.int .i64 i46)])) (.fail)

/-- strings.Count -/
noncomputable def T28 (s0 : ByteArray) (s1 : ByteArray) : Pg :=
  bif (((s1.size : Nat) : Int) == 0) then (.call 30 [(.string s0)] fun v2 => asInt .i64 v2 fun i3 => .ret .ret [(.int .i64 (wi64 (i3 + 1)))]) else (bif (((s1.size : Nat) : Int) == 1) then (grd (decide (0 < ((s1.size : Nat) : Int))) (.ret .ret [(.int .i64 (((Lib.countByte (s0).data.toList (Nat.toUInt8 (Int.toNat (byteAt s1 0)))) : Nat) : Int))])) else (.loop [(.string s0), (.int .i64 0), (.int .i64 0)] (T28b0 s1) (T28k1)))
theorem T28_eq (s0 : ByteArray) (s1 : ByteArray) : progOf PROG false 28 [(.string s0), (.string s1)] = T28 s0 s1 := by kernel_rfl


/-- strings.Index -/
noncomputable def T29 (s0 : ByteArray) (s1 : ByteArray) : Pg :=
  .call 33 [(.string s0), (.string s1)] fun v2 => asInt .i64 v2 fun i3 => .ret .ret [(.int .i64 i3)]
theorem T29_eq (s0 : ByteArray) (s1 : ByteArray) : progOf PROG false 29 [(.string s0), (.string s1)] = T29 s0 s1 := by kernel_rfl


noncomputable def T33k0 (s0 : ByteArray) (s1 : ByteArray) : Ex → List Value → Pg :=
  fun e6 l7 => sw e6 .normal (asCons l7 fun v8 l9 => asBool v8 fun b10 => asNil l9 (bif b10 then (.call 36 [(.string s0), (.string s1)] fun v11 => asInt .i64 v11 fun i12 => .ret .ret [(.int .i64 i12)]) else (.ret .normal [(.int .i64 0)]))) (.fail)

noncomputable def T33k1 (i43 : Int) (s0 : ByteArray) (s1 : ByteArray) (i24 : Int) (i46 : Int) : Ex → List Value → Pg :=
  fun e65 l66 => sw e65 .normal (asCons l66 fun v67 l68 => asBool v67 fun b69 => asNil l68 (bif b69 then (grd (((decide (0 ≤ (wi64 (i43 + 1)))) && (decide ((wi64 (i43 + 1)) ≤ ((s0.size : Nat) : Int)))) && (decide (((s0.size : Nat) : Int) ≤ ((s0.size : Nat) : Int)))) (.call 38 [(.string (s0.extract (Int.toNat (wi64 (i43 + 1))) s0.size)), (.string s1)] fun v70 => asInt .i64 v70 fun i71 => bif (decide (i71 < 0)) then (.ret .ret [(.int .i64 (wi64 (i24 + 1))), (.int .i64 (wi64 (i43 + 1))), (.int .i64 (-1))]) else (.ret .ret [(.int .i64 (wi64 (i24 + 1))), (.int .i64 (wi64 (i43 + 1))), (.int .i64 (wi64 ((wi64 (i43 + 1)) + i71)))]))) else (.ret .normal [(.int .i64 (wi64 (i24 + 1))), (.int .i64 (wi64 (i43 + 1))), (.int .i64 i46)]))) (.fail)

noncomputable def T33k2 (i43 : Int) (s0 : ByteArray) (s1 : ByteArray) (i24 : Int) (i46 : Int) : Ex → List Value → Pg :=
  fun e56 l57 => sw e56 .normal (asCons l57 fun v58 l59 => asBool v58 fun b60 => asNil l59 (bif b60 then (grd (((decide (0 ≤ (wi64 (i43 + 1)))) && (decide ((wi64 (i43 + 1)) ≤ ((s0.size : Nat) : Int)))) && (decide (((s0.size : Nat) : Int) ≤ ((s0.size : Nat) : Int)))) (.call 36 [(.string (s0.extract (Int.toNat (wi64 (i43 + 1))) s0.size)), (.string s1)] fun v61 => asInt .i64 v61 fun i62 => bif (decide (i62 ≥ 0)) then (.ret .ret [(.int .i64 (wi64 (i24 + 1))), (.int .i64 (wi64 (i43 + 1))), (.int .i64 (wi64 (i62 + (wi64 (i43 + 1)))))]) else (.ret .ret [(.int .i64 (wi64 (i24 + 1))), (.int .i64 (wi64 (i43 + 1))), (.int .i64 (-1))]))) else (.join (.act (ld1 ⟨3, 0, none⟩) fun v63 => asInt .i64 v63 fun i64 => bif (decide (((s1.size : Nat) : Int) > i64)) == true then (.ret .normal [(.bool ((decide ((wi64 (i24 + 1)) ≥ (wi64 (4 + (shrI .i64 (wi64 (i43 + 1)) 4))))) && (decide ((wi64 (i43 + 1)) < (wi64 ((wi64 (((s0.size : Nat) : Int) - ((s1.size : Nat) : Int))) + 1))))))]) else (.ret .normal [(.bool false)])) (T33k1 i43 s0 s1 i24 i46)))) (.fail)

noncomputable def T33k3 (i24 : Int) (i43 : Int) (s1 : ByteArray) (s0 : ByteArray) (i46 : Int) : Ex → List Value → Pg :=
  fun e47 l48 => sw e47 .normal (asCons l48 fun v49 l50 => asBool v49 fun b51 => asNil l50 (bif b51 then (.ret .ret [(.int .i64 i24), (.int .i64 i43), (.int .i64 i43)]) else (.join (.act (ld1 ⟨3, 0, none⟩) fun v52 => asInt .i64 v52 fun i53 => bif (decide (((s1.size : Nat) : Int) ≤ i53)) == true then (.call 37 [(.int .i64 (wi64 (i43 + 1)))] fun v54 => asInt .i64 v54 fun i55 => .ret .normal [(.bool (decide ((wi64 (i24 + 1)) > i55)))]) else (.ret .normal [(.bool false)])) (T33k2 i43 s0 s1 i24 i46)))) (.fail)

noncomputable def T33k4 (i24 : Int) (s0 : ByteArray) (s1 : ByteArray) : Ex → List Value → Pg :=
  fun e33 l34 => sw e33 .ret (asCons l34 fun v35 l36 => asInt .i64 v35 fun i37 => asCons l36 fun v38 l39 => asInt .i64 v38 fun i40 => asNil l39 (.ret .ret [(.int .i64 i24), (.int .i64 i37), (.int .i64 i40)])) (sw e33 .normal (asCons l34 fun v41 l42 => asInt .i64 v41 fun i43 => asCons l42 fun v44 l45 => asInt .i64 v44 fun i46 => asNil l45 (.join (grd ((decide (0 ≤ (wi64 (i43 + 1)))) && (decide ((wi64 (i43 + 1)) < ((s0.size : Nat) : Int)))) (bif ((byteAt s0 (Int.toNat (wi64 (i43 + 1)))) == (byteAt s1 1)) == true then (grd (((decide (0 ≤ i43)) && (decide (i43 ≤ (wi64 (i43 + ((s1.size : Nat) : Int)))))) && (decide ((wi64 (i43 + ((s1.size : Nat) : Int))) ≤ ((s0.size : Nat) : Int)))) (.ret .normal [(.bool ((s0.extract (Int.toNat i43) (Int.toNat (wi64 (i43 + ((s1.size : Nat) : Int))))).toList == s1.toList))])) else (.ret .normal [(.bool false)]))) (T33k3 i24 i43 s1 s0 i46))) (.fail))

noncomputable def T33k5 : Ex → List Value → Pg :=
  fun e72 l73 => sw e72 .ret (asCons l73 fun v74 l75 => asInt .i64 v74 fun i76 => asCons l75 fun v77 l78 => asInt .i64 v77 fun i79 => asCons l78 fun v80 l81 => asInt .i64 v80 fun i82 => asNil l81 (.ret .ret [(.int .i64 i76), (.int .i64 i79), (.int .i64 i82)])) (sw e72 .normal (asCons l73 fun v83 l84 => asInt .i64 v83 fun i85 => asCons l84 fun v86 l87 => asInt .i64 v86 fun i88 => asCons l87 fun v89 l90 => asInt .i64 v89 fun i91 => asNil l90 (.ret .normal [(.int .i64 i85), (.int .i64 i88), (.int .i64 i91)])) (.fail))

noncomputable def T33b0 (s0 : ByteArray) (s1 : ByteArray) : List Value → Pg :=
  fun l21 => asCons l21 fun v22 l23 => asInt .i64 v22 fun i24 => asCons l23 fun v25 l26 => asInt .i64 v25 fun i27 => asCons l26 fun v28 l29 => asInt .i64 v28 fun i30 => asNil l29 (bif (decide (i27 < (wi64 ((wi64 (((s0.size : Nat) : Int) - ((s1.size : Nat) : Int))) + 1)))) then (.join (grd ((decide (0 ≤ i27)) && (decide (i27 < ((s0.size : Nat) : Int)))) (.join (bif ((byteAt s0 (Int.toNat i27)) != (byteAt s1 0)) then (grd (((decide (0 ≤ (wi64 (i27 + 1)))) && (decide ((wi64 (i27 + 1)) ≤ (wi64 ((wi64 (((s0.size : Nat) : Int) - ((s1.size : Nat) : Int))) + 1))))) && (decide ((wi64 ((wi64 (((s0.size : Nat) : Int) - ((s1.size : Nat) : Int))) + 1)) ≤ ((s0.size : Nat) : Int)))) (.call 35 [(.string (s0.extract (Int.toNat (wi64 (i27 + 1))) (Int.toNat (wi64 ((wi64 (((s0.size : Nat) : Int) - ((s1.size : Nat) : Int))) + 1))))), (.int .u8 (byteAt s1 0))] fun v31 => asInt .i64 v31 fun i32 => bif (decide (i32 < 0)) then (.ret .ret [(.int .i64 i27), (.int .i64 (-1))]) else (.ret .normal [(.int .i64 (wi64 (i27 + (wi64 (i32 + 1))))), (.int .i64 i30)]))) else (.ret .normal [(.int .i64 i27), (.int .i64 i30)])) (T33k4 i24 s0 s1))) (T33k5)) else (.ret (.exit 1) [(.int .i64 i24), (.int .i64 i27), (.int .i64 i30)]))

noncomputable def T33k6 : Ex → List Value → Pg :=
  fun e92 l93 => sw e92 (.exit 1) (asCons l93 fun v94 l95 => asInt .i64 v94 fun i96 => asCons l95 fun v97 l98 => asInt .i64 v97 fun i99 => asCons l98 fun v100 l101 => asInt .i64 v100 fun i102 => asNil l101 (.ret .ret [(.int .i64 (-1))])) (sw e92 .ret (asCons l93 fun v103 l104 => asInt .i64 v103 fun i105 => asCons l104 fun v106 l107 => asInt .i64 v106 fun i108 => asCons l107 fun v109 l110 => asInt .i64 v109 fun i111 => asNil l110 (.ret .ret [(.int .i64 i111)])) (.fail))

noncomputable def T33k7 (s1 : ByteArray) (s0 : ByteArray) : Ex → List Value → Pg :=
  fun e13 l14 => sw e13 .ret (asCons l14 fun v15 l16 => asInt .i64 v15 fun i17 => asNil l16 (.ret .ret [(.int .i64 i17)])) (sw e13 .normal (asCons l14 fun v18 l19 => asInt .i64 v18 fun i20 => asNil l19 (grd (decide (0 < ((s1.size : Nat) : Int))) (grd (decide (1 < ((s1.size : Nat) : Int))) (.loop [(.int .i64 0), (.int .i64 0), (.int .i64 i20)] (T33b0 s0 s1) (T33k6))))) (.fail))

/-- internal/stringslite.Index -/
noncomputable def T33 (s0 : ByteArray) (s1 : ByteArray) : Pg :=
  .join (bif ((((s1.size : Nat) : Int) == 0) || (s1.toList == s0.toList)) then (.ret .ret [(.int .i64 0)]) else (bif (((s1.size : Nat) : Int) == 1) then (grd (decide (0 < ((s1.size : Nat) : Int))) (.call 35 [(.string s0), (.int .u8 (byteAt s1 0))] fun v2 => asInt .i64 v2 fun i3 => .ret .ret [(.int .i64 i3)])) else (bif (decide (((s1.size : Nat) : Int) ≥ ((s0.size : Nat) : Int))) then (.ret .ret [(.int .i64 (-1))]) else (.join (.act (ld1 ⟨3, 0, none⟩) fun v4 => asInt .i64 v4 fun i5 => bif (decide (((s1.size : Nat) : Int) ≤ i5)) == true then (.ret .normal [(.bool (decide (((s0.size : Nat) : Int) ≤ 64)))]) else (.ret .normal [(.bool false)])) (T33k0 s0 s1))))) (T33k7 s1 s0)
theorem T33_eq (s0 : ByteArray) (s1 : ByteArray) : progOf PROG false 33 [(.string s0), (.string s1)] = T33 s0 s1 := by kernel_rfl


/-- internal/stringslite.IndexByte -/
noncomputable def T35 (s0 : ByteArray) (i1 : Int) : Pg :=
  .ret .ret [(.int .i64 (Lib.indexByte (s0).data.toList (Nat.toUInt8 (Int.toNat i1))))]
theorem T35_eq (s0 : ByteArray) (i1 : Int) : progOf PROG false 35 [(.string s0), (.int .u8 i1)] = T35 s0 i1 := by kernel_rfl

noncomputable def A6 : List Value → Option Pg
  | [(.string s0), (.int .i64 i1)] => some (T6 s0 i1)
  | _ => none
theorem A6_ok : ∀ args p, A6 args = some p → progOf PROG false 6 args = p := by
  intro args p h
  unfold A6 at h
  split at h
  · cases h; exact T6_eq _ _
  · cases h
noncomputable def A8 : List Value → Option Pg
  | [(.string s0), (.int .i32 i1), (.int .i64 i2), (.int .i64 i3)] => some (T8 s0 i1 i2 i3)
  | _ => none
theorem A8_ok : ∀ args p, A8 args = some p → progOf PROG false 8 args = p := by
  intro args p h
  unfold A8 at h
  split at h
  · cases h; exact T8_eq _ _ _ _
  · cases h
noncomputable def A9 : List Value → Option Pg
  | [] => some (T9)
  | _ => none
theorem A9_ok : ∀ args p, A9 args = some p → progOf PROG false 9 args = p := by
  intro args p h
  unfold A9 at h
  split at h
  · cases h; exact T9_eq 
  · cases h
noncomputable def A10 : List Value → Option Pg
  | [(.string s0)] => some (T10 s0)
  | _ => none
theorem A10_ok : ∀ args p, A10 args = some p → progOf PROG false 10 args = p := by
  intro args p h
  unfold A10 at h
  split at h
  · cases h; exact T10_eq _
  · cases h
noncomputable def A11 : List Value → Option Pg
  | [(.string s0), (.int .i64 i1)] => some (T11 s0 i1)
  | _ => none
theorem A11_ok : ∀ args p, A11 args = some p → progOf PROG false 11 args = p := by
  intro args p h
  unfold A11 at h
  split at h
  · cases h; exact T11_eq _ _
  · cases h
noncomputable def A12 : List Value → Option Pg
  | [(.int .i32 i0)] => some (T12 i0)
  | _ => none
theorem A12_ok : ∀ args p, A12 args = some p → progOf PROG false 12 args = p := by
  intro args p h
  unfold A12 at h
  split at h
  · cases h; exact T12_eq _
  · cases h
noncomputable def A13 : List Value → Option Pg
  | [(.string s0)] => some (T13 s0)
  | _ => none
theorem A13_ok : ∀ args p, A13 args = some p → progOf PROG false 13 args = p := by
  intro args p h
  unfold A13 at h
  split at h
  · cases h; exact T13_eq _
  · cases h
noncomputable def A14 : List Value → Option Pg
  | [(.int .i32 i0)] => some (T14 i0)
  | _ => none
theorem A14_ok : ∀ args p, A14 args = some p → progOf PROG false 14 args = p := by
  intro args p h
  unfold A14 at h
  split at h
  · cases h; exact T14_eq _
  · cases h
noncomputable def A15 : List Value → Option Pg
  | [(.string s0), (.int .i64 i1)] => some (T15 s0 i1)
  | _ => none
theorem A15_ok : ∀ args p, A15 args = some p → progOf PROG false 15 args = p := by
  intro args p h
  unfold A15 at h
  split at h
  · cases h; exact T15_eq _ _
  · cases h
noncomputable def A16 : List Value → Option Pg
  | [(.string s0), (.int .i64 i1)] => some (T16 s0 i1)
  | _ => none
theorem A16_ok : ∀ args p, A16 args = some p → progOf PROG false 16 args = p := by
  intro args p h
  unfold A16 at h
  split at h
  · cases h; exact T16_eq _ _
  · cases h
noncomputable def A17 : List Value → Option Pg
  | [(.string s0), (.int .i64 i1)] => some (T17 s0 i1)
  | _ => none
theorem A17_ok : ∀ args p, A17 args = some p → progOf PROG false 17 args = p := by
  intro args p h
  unfold A17 at h
  split at h
  · cases h; exact T17_eq _ _
  · cases h
noncomputable def A18 : List Value → Option Pg
  | [(.string s0)] => some (T18 s0)
  | _ => none
theorem A18_ok : ∀ args p, A18 args = some p → progOf PROG false 18 args = p := by
  intro args p h
  unfold A18 at h
  split at h
  · cases h; exact T18_eq _
  · cases h
noncomputable def A19 : List Value → Option Pg
  | [(.string s0)] => some (T19 s0)
  | _ => none
theorem A19_ok : ∀ args p, A19 args = some p → progOf PROG false 19 args = p := by
  intro args p h
  unfold A19 at h
  split at h
  · cases h; exact T19_eq _
  · cases h
noncomputable def A22 : List Value → Option Pg
  | [(.string s0), (.string s1)] => some (T22 s0 s1)
  | _ => none
theorem A22_ok : ∀ args p, A22 args = some p → progOf PROG false 22 args = p := by
  intro args p h
  unfold A22 at h
  split at h
  · cases h; exact T22_eq _ _
  · cases h
noncomputable def A24 : List Value → Option Pg
  | [(.string s0), (.string s1), (.int .i64 i2), (.int .i64 i3)] => some (T24 s0 s1 i2 i3)
  | _ => none
theorem A24_ok : ∀ args p, A24 args = some p → progOf PROG false 24 args = p := by
  intro args p h
  unfold A24 at h
  split at h
  · cases h; exact T24_eq _ _ _ _
  · cases h
noncomputable def A28 : List Value → Option Pg
  | [(.string s0), (.string s1)] => some (T28 s0 s1)
  | _ => none
theorem A28_ok : ∀ args p, A28 args = some p → progOf PROG false 28 args = p := by
  intro args p h
  unfold A28 at h
  split at h
  · cases h; exact T28_eq _ _
  · cases h
noncomputable def A29 : List Value → Option Pg
  | [(.string s0), (.string s1)] => some (T29 s0 s1)
  | _ => none
theorem A29_ok : ∀ args p, A29 args = some p → progOf PROG false 29 args = p := by
  intro args p h
  unfold A29 at h
  split at h
  · cases h; exact T29_eq _ _
  · cases h
noncomputable def A33 : List Value → Option Pg
  | [(.string s0), (.string s1)] => some (T33 s0 s1)
  | _ => none
theorem A33_ok : ∀ args p, A33 args = some p → progOf PROG false 33 args = p := by
  intro args p h
  unfold A33 at h
  split at h
  · cases h; exact T33_eq _ _
  · cases h
noncomputable def A35 : List Value → Option Pg
  | [(.string s0), (.int .u8 i1)] => some (T35 s0 i1)
  | _ => none
theorem A35_ok : ∀ args p, A35 args = some p → progOf PROG false 35 args = p := by
  intro args p h
  unfold A35 at h
  split at h
  · cases h; exact T35_eq _ _
  · cases h
noncomputable def TAB : Tab := (.low 15 (.low 10 (.low 8 (.one 6 A6 (.one 8 A8 .nil)) (.one 9 A9 (.one 10 A10 .nil))) (.low 12 (.one 11 A11 (.one 12 A12 .nil)) (.one 13 A13 (.one 14 A14 (.one 15 A15 .nil))))) (.low 22 (.low 17 (.one 16 A16 (.one 17 A17 .nil)) (.one 18 A18 (.one 19 A19 (.one 22 A22 .nil)))) (.low 28 (.one 24 A24 (.one 28 A28 .nil)) (.one 29 A29 (.one 33 A33 (.one 35 A35 .nil))))))
theorem TAB_ok : TabOK PROG TAB := (.low (.low (.low (.one A6_ok (.one A8_ok .nil)) (.one A9_ok (.one A10_ok .nil))) (.low (.one A11_ok (.one A12_ok .nil)) (.one A13_ok (.one A14_ok (.one A15_ok .nil))))) (.low (.low (.one A16_ok (.one A17_ok .nil)) (.one A18_ok (.one A19_ok (.one A22_ok .nil)))) (.low (.one A24_ok (.one A28_ok .nil)) (.one A29_ok (.one A33_ok (.one A35_ok .nil))))))

end Go.Pg
