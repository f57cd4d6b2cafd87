/- More trees, written out by program. -/
import Derived.Test.YtniknfiaapcmlaaDoorTCh
namespace Go.Pg
open Go.Proofs
set_option linter.unusedVariables false
noncomputable def T5k0 : Ex → List Value → Pg :=
  fun e13 l14 => sw e13 .normal (asCons l14 fun v15 l16 => asBool v15 fun b17 => asNil l16 (.ret .ret [(.bool b17)])) (.fail)

/-- hindsight/hindsightlaw1.CharsClass -/
noncomputable def T5 (i0 : Int) : Pg :=
  .call 9 [] fun v1 => asBool v1 fun b2 => bif (!b2) then (.ret .ret [(.bool false)]) else (.call 12 [(.int .i32 i0)] fun v3 => asInt .i64 v3 fun i4 => bif (((decide (i0 < 0)) || (decide (i0 > 1114111))) || ((decide (i0 ≥ 55296)) && (decide (i0 < 57344)))) then (.ret .ret [(.bool (i4 == 0))]) else (.join (bif (((decide (i4 ≥ 0)) && (decide (i4 ≤ 4))) && ((i4 != 2) || ((decide (i0 ≥ 48)) && (decide (i0 ≤ 57))))) == true then (.call 13 [(.string (Utf8.encode i0))] fun v5 => asBool v5 fun b6 => bif ((!b6) || (i4 == 1)) == true then (grd (Nat.ble ((Utf8.encode i0).size + 1) 9223372036854775807) (.call 13 [(.string ((Utf8.encode i0) ++ (bs [97])))] fun v7 => asBool v7 fun b8 => .call 13 [(.string (Utf8.encode i0))] fun v9 => asBool v9 fun b10 => bif (b8 == b10) == true then (.call 14 [(.int .i32 i0)] fun v11 => asInt .i64 v11 fun i12 => .ret .normal [(.bool (i12 == i4))]) else (.ret .normal [(.bool false)]))) else (.ret .normal [(.bool false)])) else (.ret .normal [(.bool false)])) (T5k0)))
theorem T5_eq (i0 : Int) : progOf PROG false 5 [(.int .i32 i0)] = T5 i0 := by kernel_rfl

noncomputable def T13k0 : Ex → List Value → Pg :=
  fun e13 l14 => sw e13 .ret (asCons l14 fun v15 l16 => asBool v15 fun b17 => asNil l16 (.ret .ret [(.bool b17)])) (.fail)

noncomputable def T13b0 (a3 : Addr) : List Value → Pg :=
  fun l4 => asCons l4 fun v5 l6 => asBool v5 fun b7 => asNil l6 (.act (nxt (some a3)) fun v8 => asNx v8 (fun i9 i10 => .join (.call 21 [(.int .i32 i10)] fun v11 => asBool v11 fun b12 => .ret .ret [(.bool b12)]) (T13k0)) (.ret (.exit 0) [(.bool b7)]))

noncomputable def T13k1 : Ex → List Value → Pg :=
  fun e18 l19 => sw e18 (.exit 0) (asCons l19 fun v20 l21 => asBool v20 fun b22 => asNil l21 (.ret .ret [(.bool false)])) (sw e18 .ret (asCons l19 fun v23 l24 => asBool v23 fun b25 => asNil l24 (.ret .ret [(.bool b25)])) (.fail))

/-- hindsight/chars.Upper -/
noncomputable def T13 (s0 : ByteArray) : Pg :=
  .act (rng s0) fun v1 => asPtr v1 fun p2 => asSome p2 fun a3 => .loop [(.bool false)] (T13b0 a3) (T13k1)
theorem T13_eq (s0 : ByteArray) : progOf PROG false 13 [(.string s0)] = T13 s0 := by kernel_rfl

noncomputable def T14k0 (i0 : Int) : Ex → List Value → Pg :=
  fun e3 l4 => sw e3 .normal (asCons l4 fun v5 l6 => asBool v5 fun b7 => asNil l6 (bif b7 then (.ret .ret [(.int .i64 1)]) else (bif ((decide (i0 ≥ 48)) && (decide (i0 ≤ 57))) then (.ret .ret [(.int .i64 2)]) else (bif ((((i0 == 32) || (i0 == 9)) || (i0 == 10)) || (i0 == 13)) then (.ret .ret [(.int .i64 3)]) else (.ret .normal [(.int .i64 0)]))))) (.fail)

noncomputable def T14k1 (i19 : Int) : Ex → List Value → Pg :=
  fun e23 l24 => sw e23 .ret (asCons l24 fun v25 l26 => asInt .i64 v25 fun i27 => asNil l26 (.ret .ret [(.int .i64 i19), (.int .i64 i27)])) (sw e23 .normal (asCons l24 fun v28 l29 => asInt .i64 v28 fun i30 => asNil l29 (.ret .normal [(.int .i64 (wi64 (i19 + 1))), (.int .i64 i30)])) (.fail))

noncomputable def T14b0 (i0 : Int) : List Value → Pg :=
  fun l16 => asCons l16 fun v17 l18 => asInt .i64 v17 fun i19 => asCons l18 fun v20 l21 => asInt .i64 v20 fun i22 => asNil l21 (bif (decide (i19 < 13)) then (.join (grd ((decide (0 ≤ i19)) && (decide (i19 < 13))) (bif (i0 == (wi32 (byteAt (bs [40, 41, 44, 59, 61, 60, 62, 43, 45, 42, 124, 33, 58]) (Int.toNat i19)))) then (.ret .ret [(.int .i64 4)]) else (.ret .normal [(.int .i64 i22)]))) (T14k1 i19)) else (.ret (.exit 1) [(.int .i64 i19), (.int .i64 i22)]))

noncomputable def T14k2 : Ex → List Value → Pg :=
  fun e31 l32 => sw e31 (.exit 1) (asCons l32 fun v33 l34 => asInt .i64 v33 fun i35 => asCons l34 fun v36 l37 => asInt .i64 v36 fun i38 => asNil l37 (.ret .ret [(.int .i64 0)])) (sw e31 .ret (asCons l32 fun v39 l40 => asInt .i64 v39 fun i41 => asCons l40 fun v42 l43 => asInt .i64 v42 fun i44 => asNil l43 (.ret .ret [(.int .i64 i44)])) (.fail))

noncomputable def T14k3 (i0 : Int) : Ex → List Value → Pg :=
  fun e8 l9 => sw e8 .ret (asCons l9 fun v10 l11 => asInt .i64 v10 fun i12 => asNil l11 (.ret .ret [(.int .i64 i12)])) (sw e8 .normal (asCons l9 fun v13 l14 => asInt .i64 v13 fun i15 => asNil l14 (.loop [(.int .i64 0), (.int .i64 i15)] (T14b0 i0) (T14k2))) (.fail))

/-- hindsight/hindsightref1.Class -/
noncomputable def T14 (i0 : Int) : Pg :=
  .join (.join (bif ((i0 == 95) || (i0 == 39)) == false then (.call 20 [(.int .i32 i0)] fun v1 => asBool v1 fun b2 => .ret .normal [(.bool b2)]) else (.ret .normal [(.bool true)])) (T14k0 i0)) (T14k3 i0)
theorem T14_eq (i0 : Int) : progOf PROG false 14 [(.int .i32 i0)] = T14 i0 := by kernel_rfl

end Go.Pg
