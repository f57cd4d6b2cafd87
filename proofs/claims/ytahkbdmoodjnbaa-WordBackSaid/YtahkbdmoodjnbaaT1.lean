/- The trees of the program's functions, written out by program; each is shown to be the function's own. -/
import Derived.Test.YtahkbdmoodjnbaaProg
import Derived.KernelRfl
import Derived.Test.YtahkbdmoodjnbaaPg2
namespace Go.Pg
open Go.Proofs
set_option linter.unusedVariables false
noncomputable abbrev PROG : Program := Try.prog
noncomputable def T3k0 : Ex → List Value → Pg :=
  fun e16 l17 => sw e16 .normal (asCons l17 fun v18 l19 => asBool v18 fun b20 => asNil l19 (.ret .ret [(.bool b20)])) (.fail)

/-- hindsight/hindsightlaw11.WordOrder -/
noncomputable def T3 (i0 : Int) (i1 : Int) (i2 : Int) (i3 : Int) : Pg :=
  .call 9 [] fun v4 => asBool v4 fun b5 => bif (!b5) then (.ret .ret [(.bool false)]) else (bif ((((decide (i2 < 0)) || (decide (i3 < 0))) || (decide (i2 ≥ 2147483648))) || (decide (i3 ≥ 2147483648))) then (.ret .ret [(.bool true)]) else (.call 10 [(.int .i64 (shrI .i64 (shlI .i64 i0 1) 1))] fun v6 => asInt .u64 v6 fun i7 => .call 10 [(.int .i64 (shrI .i64 (shlI .i64 i1 1) 1))] fun v8 => asInt .u64 v8 fun i9 => .join (bif ((i7 == i9) == ((shrI .i64 (shlI .i64 i0 1) 1) == (shrI .i64 (shlI .i64 i1 1) 1))) == true then (.call 11 [(.int .i64 i2)] fun v10 => asInt .u64 v10 fun i11 => .call 11 [(.int .i64 i3)] fun v12 => asInt .u64 v12 fun i13 => bif ((i11 == i13) == (i2 == i3)) == true then (.call 11 [(.int .i64 i2)] fun v14 => asInt .u64 v14 fun i15 => .ret .normal [(.bool (i7 != i15))]) else (.ret .normal [(.bool false)])) else (.ret .normal [(.bool false)])) (T3k0)))
theorem T3_eq (i0 : Int) (i1 : Int) (i2 : Int) (i3 : Int) : progOf PROG false 3 [(.int .i64 i0), (.int .i64 i1), (.int .i64 i2), (.int .i64 i3)] = T3 i0 i1 i2 i3 := by kernel_rfl

noncomputable def T4k0 : Ex → List Value → Pg :=
  fun e92 l93 => sw e92 .normal (asCons l93 fun v94 l95 => asBool v94 fun b96 => asNil l95 (.ret .ret [(.bool b96)])) (.fail)

/-- hindsight/hindsightlaw11.WordSays -/
noncomputable def T4 (i0 : Int) (i1 : Int) (i2 : Int) (i3 : Int) (i4 : Int) (i5 : Int) : Pg :=
  .call 9 [] fun v6 => asBool v6 fun b7 => bif (!b7) then (.ret .ret [(.bool false)]) else (.call 12 [(.int .u64 i5)] fun v8 => asTuple v8 fun l9 => asCons l9 fun v10 l11 => asInt .i64 v10 fun i12 => asCons l11 fun v13 l14 => asBool v13 fun b15 => asNil l14 (.call 13 [(.int .u64 i5)] fun v16 => asTuple v16 fun l17 => asCons l17 fun v18 l19 => asInt .i64 v18 fun i20 => asCons l19 fun v21 l22 => asBool v21 fun b23 => asNil l22 (.call 14 [(.int .u64 i5)] fun v24 => asTuple v24 fun l25 => asCons l25 fun v26 l27 => asInt .i64 v26 fun i28 => asCons l27 fun v29 l30 => asBool v29 fun b31 => asNil l30 (.call 15 [(.int .u64 i5)] fun v32 => asTuple v32 fun l33 => asCons l33 fun v34 l35 => asInt .i64 v34 fun i36 => asCons l35 fun v37 l38 => asBool v37 fun b39 => asNil l38 (.call 16 [(.int .i64 i2), (.int .i64 i3), (.int .i64 i4)] fun v40 => asTuple v40 fun l41 => asCons l41 fun v42 l43 => asInt .u64 v42 fun i44 => asCons l43 fun v45 l46 => asBool v45 fun b47 => asNil l46 (.call 17 [(.int .i64 i2), (.int .i64 i3), (.int .i64 i4)] fun v48 => asTuple v48 fun l49 => asCons l49 fun v50 l51 => asInt .u64 v50 fun i52 => asCons l51 fun v53 l54 => asBool v53 fun b55 => asNil l54 (.call 18 [(.int .u64 i5)] fun v56 => asTuple v56 fun l57 => asCons l57 fun v58 l59 => asInt .i64 v58 fun i60 => asCons l59 fun v61 l62 => asInt .i64 v61 fun i63 => asCons l62 fun v64 l65 => asInt .i64 v64 fun i66 => asCons l65 fun v67 l68 => asBool v67 fun b69 => asNil l68 (.call 19 [(.int .u64 i5)] fun v70 => asTuple v70 fun l71 => asCons l71 fun v72 l73 => asInt .i64 v72 fun i74 => asCons l73 fun v75 l76 => asInt .i64 v75 fun i77 => asCons l76 fun v78 l79 => asInt .i64 v78 fun i80 => asCons l79 fun v81 l82 => asBool v81 fun b83 => asNil l82 (.join (.call 10 [(.int .i64 i0)] fun v84 => asInt .u64 v84 fun i85 => .call 20 [(.int .i64 i0)] fun v86 => asInt .u64 v86 fun i87 => bif (i85 == i87) == true then (.call 11 [(.int .i64 i1)] fun v88 => asInt .u64 v88 fun i89 => .call 21 [(.int .i64 i1)] fun v90 => asInt .u64 v90 fun i91 => .ret .normal [(.bool (((((((((((i89 == i91) && (i12 == i20)) && (b15 == b23)) && (i28 == i36)) && (b31 == b39)) && (i44 == i52)) && (b47 == b55)) && (i60 == i74)) && (i63 == i77)) && (i66 == i80)) && (b69 == b83)))]) else (.ret .normal [(.bool false)])) (T4k0))))))))))
theorem T4_eq (i0 : Int) (i1 : Int) (i2 : Int) (i3 : Int) (i4 : Int) (i5 : Int) : progOf PROG false 4 [(.int .i64 i0), (.int .i64 i1), (.int .i64 i2), (.int .i64 i3), (.int .i64 i4), (.int .u64 i5)] = T4 i0 i1 i2 i3 i4 i5 := by kernel_rfl

noncomputable def T5k0 : Ex → List Value → Pg :=
  fun e87 l88 => sw e87 .normal (asCons l88 fun v89 l90 => asBool v89 fun b91 => asNil l90 (.ret .ret [(.bool b91)])) (.fail)

noncomputable def T5k1 (i5 : Int) : Ex → List Value → Pg :=
  fun e63 l64 => sw e63 .ret (asCons l64 fun v65 l66 => asBool v65 fun b67 => asNil l66 (.ret .ret [(.bool b67)])) (sw e63 .normal (asCons l64 fun v68 l69 => asBool v68 fun b70 => asNil l69 (.call 12 [(.int .u64 i5)] fun v71 => asTuple v71 fun l72 => asCons l72 fun v73 l74 => asInt .i64 v73 fun i75 => asCons l74 fun v76 l77 => asBool v76 fun b78 => asNil l77 (.call 14 [(.int .u64 i5)] fun v79 => asTuple v79 fun l80 => asCons l80 fun v81 l82 => asInt .i64 v81 fun i83 => asCons l82 fun v84 l85 => asBool v84 fun b86 => asNil l85 (.join (bif (!(b78 && b86)) == true then (.ret .normal [(.bool (b78 == ((Int.tmod i5 2) == 1)))]) else (.ret .normal [(.bool false)])) (T5k0))))) (.fail))

noncomputable def T5k2 (i2 : Int) (i3 : Int) (i4 : Int) (i5 : Int) : Ex → List Value → Pg :=
  fun e33 l34 => sw e33 .ret (asCons l34 fun v35 l36 => asBool v35 fun b37 => asNil l36 (.ret .ret [(.bool b37)])) (sw e33 .normal (asCons l34 fun v38 l39 => asBool v38 fun b40 => asNil l39 (.call 16 [(.int .i64 i2), (.int .i64 i3), (.int .i64 i4)] fun v41 => asTuple v41 fun l42 => asCons l42 fun v43 l44 => asInt .u64 v43 fun i45 => asCons l44 fun v46 l47 => asBool v46 fun b48 => asNil l47 (.join (bif b48 then (.call 18 [(.int .u64 i45)] fun v49 => asTuple v49 fun l50 => asCons l50 fun v51 l52 => asInt .i64 v51 fun i53 => asCons l52 fun v54 l55 => asInt .i64 v54 fun i56 => asCons l55 fun v57 l58 => asInt .i64 v57 fun i59 => asCons l58 fun v60 l61 => asBool v60 fun b62 => asNil l61 (bif ((((!b62) || (i53 != i2)) || (i56 != i3)) || (i59 != i4)) then (.ret .ret [(.bool false)]) else (.ret .normal [(.bool b40)]))) else (.ret .normal [(.bool b40)])) (T5k1 i5)))) (.fail))

noncomputable def T5k3 (i1 : Int) (i2 : Int) (i3 : Int) (i4 : Int) (i5 : Int) : Ex → List Value → Pg :=
  fun e18 l19 => sw e18 .normal (asCons l19 fun v20 l21 => asBool v20 fun b22 => asNil l21 (bif b22 then (.ret .ret [(.bool false)]) else (.join (bif ((decide (i1 ≥ 0)) && (decide (i1 < 2147483648))) then (.call 11 [(.int .i64 i1)] fun v23 => asInt .u64 v23 fun i24 => .call 14 [(.int .u64 i24)] fun v25 => asTuple v25 fun l26 => asCons l26 fun v27 l28 => asInt .i64 v27 fun i29 => asCons l28 fun v30 l31 => asBool v30 fun b32 => asNil l31 (bif ((!b32) || (i29 != i1)) then (.ret .ret [(.bool false)]) else (.ret .normal [(.bool false)]))) else (.ret .normal [(.bool false)])) (T5k2 i2 i3 i4 i5)))) (.fail)

/-- hindsight/hindsightlaw11.WordBack -/
noncomputable def T5 (i0 : Int) (i1 : Int) (i2 : Int) (i3 : Int) (i4 : Int) (i5 : Int) : Pg :=
  .call 9 [] fun v6 => asBool v6 fun b7 => bif (!b7) then (.ret .ret [(.bool false)]) else (.call 10 [(.int .i64 i0)] fun v8 => asInt .u64 v8 fun i9 => .call 12 [(.int .u64 i9)] fun v10 => asTuple v10 fun l11 => asCons l11 fun v12 l13 => asInt .i64 v12 fun i14 => asCons l13 fun v15 l16 => asBool v15 fun b17 => asNil l16 (.join (bif (!b17) == false then (.ret .normal [(.bool (i14 != (shrI .i64 (shlI .i64 i0 1) 1)))]) else (.ret .normal [(.bool true)])) (T5k3 i1 i2 i3 i4 i5)))
theorem T5_eq (i0 : Int) (i1 : Int) (i2 : Int) (i3 : Int) (i4 : Int) (i5 : Int) : progOf PROG false 5 [(.int .i64 i0), (.int .i64 i1), (.int .i64 i2), (.int .i64 i3), (.int .i64 i4), (.int .u64 i5)] = T5 i0 i1 i2 i3 i4 i5 := by kernel_rfl

noncomputable def T9k0 : Ex → List Value → Pg :=
  fun e14 l15 => sw e14 .normal (asCons l15 fun v16 l17 => asBool v16 fun b18 => asNil l17 (.ret .ret [(.bool b18)])) (.fail)

/-- hindsight/hindsightlaw11.awake -/
noncomputable def T9 : Pg :=
  .call 10 [(.int .i64 (-1))] fun v0 => asInt .u64 v0 fun i1 => .call 12 [(.int .u64 i1)] fun v2 => asTuple v2 fun l3 => asCons l3 fun v4 l5 => asInt .i64 v4 fun i6 => asCons l5 fun v7 l8 => asBool v7 fun b9 => asNil l8 (.join (.call 10 [(.int .i64 (-1))] fun v10 => asInt .u64 v10 fun i11 => bif (((i11 == 18446744073709551615) && b9) && (i6 == (-1))) == true then (.call 11 [(.int .i64 5)] fun v12 => asInt .u64 v12 fun i13 => .ret .normal [(.bool (i13 == 10))]) else (.ret .normal [(.bool false)])) (T9k0))
theorem T9_eq : progOf PROG false 9 [] = T9 := by kernel_rfl

/-- hindsight/word.Num -/
noncomputable def T10 (i0 : Int) : Pg :=
  .ret .ret [(.int .u64 (orI .u64 (shlI .u64 (wu64 i0) 1) 1))]
theorem T10_eq (i0 : Int) : progOf PROG false 10 [(.int .i64 i0)] = T10 i0 := by kernel_rfl

/-- hindsight/word.Ptr -/
noncomputable def T11 (i0 : Int) : Pg :=
  .ret .ret [(.int .u64 (shlI .u64 (wu64 (minV (maxV i0 0) 2147483647)) 1))]
theorem T11_eq (i0 : Int) : progOf PROG false 11 [(.int .i64 i0)] = T11 i0 := by kernel_rfl

/-- hindsight/word.Int -/
noncomputable def T12 (i0 : Int) : Pg :=
  bif ((andI .u64 i0 1) == 0) then (.ret .ret [(.tuple #[(.int .i64 0), (.bool false)])]) else (.ret .ret [(.tuple #[(.int .i64 (shrI .i64 (wi64 i0) 1)), (.bool true)])])
theorem T12_eq (i0 : Int) : progOf PROG false 12 [(.int .u64 i0)] = T12 i0 := by kernel_rfl

/-- hindsight/hindsightref11.Int -/
noncomputable def T13 (i0 : Int) : Pg :=
  bif ((Int.tmod i0 2) == 0) then (.ret .ret [(.tuple #[(.int .i64 0), (.bool false)])]) else (.ret .ret [(.tuple #[(.int .i64 (shrI .i64 (wi64 i0) 1)), (.bool true)])])
theorem T13_eq (i0 : Int) : progOf PROG false 13 [(.int .u64 i0)] = T13 i0 := by kernel_rfl

noncomputable def T14k0 (i0 : Int) : Ex → List Value → Pg :=
  fun e1 l2 => sw e1 .normal (asCons l2 fun v3 l4 => asBool v3 fun b5 => asNil l4 (bif b5 then (.ret .ret [(.tuple #[(.int .i64 0), (.bool false)])]) else (.ret .ret [(.tuple #[(.int .i64 (wi64 (shrI .u64 i0 1))), (.bool true)])]))) (.fail)

/-- hindsight/word.At -/
noncomputable def T14 (i0 : Int) : Pg :=
  .join (bif ((andI .u64 i0 1) == 1) == false then (.ret .normal [(.bool (decide ((shrI .u64 i0 1) > 2147483647)))]) else (.ret .normal [(.bool true)])) (T14k0 i0)
theorem T14_eq (i0 : Int) : progOf PROG false 14 [(.int .u64 i0)] = T14 i0 := by kernel_rfl

/-- hindsight/hindsightref11.At -/
noncomputable def T15 (i0 : Int) : Pg :=
  bif (((Int.tmod i0 2) == 1) || (decide (i0 > 4294967294))) then (.ret .ret [(.tuple #[(.int .i64 0), (.bool false)])]) else (.ret .ret [(.tuple #[(.int .i64 (wi64 (wu64 (Int.tdiv i0 2)))), (.bool true)])])
theorem T15_eq (i0 : Int) : progOf PROG false 15 [(.int .u64 i0)] = T15 i0 := by kernel_rfl

/-- hindsight/word.Head -/
noncomputable def T16 (i0 : Int) (i1 : Int) (i2 : Int) : Pg :=
  bif ((((((decide (i0 < 1)) || (decide (i0 > 3))) || (decide (i1 < 0))) || (decide (i1 > 255))) || (decide (i2 < 0))) || (decide (i2 > 65535))) then (.ret .ret [(.tuple #[(.int .u64 0), (.bool false)])]) else (.call 10 [(.int .i64 (orI .i64 (orI .i64 i2 (shlI .i64 i1 16)) (shlI .i64 i0 24)))] fun v3 => asInt .u64 v3 fun i4 => .ret .ret [(.tuple #[(.int .u64 i4), (.bool true)])])
theorem T16_eq (i0 : Int) (i1 : Int) (i2 : Int) : progOf PROG false 16 [(.int .i64 i0), (.int .i64 i1), (.int .i64 i2)] = T16 i0 i1 i2 := by kernel_rfl

/-- hindsight/hindsightref11.Head -/
noncomputable def T17 (i0 : Int) (i1 : Int) (i2 : Int) : Pg :=
  bif ((((((decide (i0 < 1)) || (decide (i0 > 3))) || (decide (i1 < 0))) || (decide (i1 > 255))) || (decide (i2 < 0))) || (decide (i2 > 65535))) then (.ret .ret [(.tuple #[(.int .u64 0), (.bool false)])]) else (.ret .ret [(.tuple #[(.int .u64 (wu64 ((wu64 ((wu64 (wi64 ((wi64 (i2 + (wi64 (i1 * 65536)))) + (wi64 (i0 * 16777216))))) * 2)) + 1))), (.bool true)])])
theorem T17_eq (i0 : Int) (i1 : Int) (i2 : Int) : progOf PROG false 17 [(.int .i64 i0), (.int .i64 i1), (.int .i64 i2)] = T17 i0 i1 i2 := by kernel_rfl

/-- hindsight/word.Split -/
noncomputable def T18 (i0 : Int) : Pg :=
  .call 12 [(.int .u64 i0)] fun v1 => asTuple v1 fun l2 => asCons l2 fun v3 l4 => asInt .i64 v3 fun i5 => asCons l4 fun v6 l7 => asBool v6 fun b8 => asNil l7 (bif ((((!b8) || (decide (i5 < 0))) || (decide (i5 > 67108863))) || (decide ((shrI .i64 i5 24) < 1))) then (.ret .ret [(.tuple #[(.int .i64 0), (.int .i64 0), (.int .i64 0), (.bool false)])]) else (.ret .ret [(.tuple #[(.int .i64 (shrI .i64 i5 24)), (.int .i64 (andI .i64 (shrI .i64 i5 16) 255)), (.int .i64 (andI .i64 i5 65535)), (.bool true)])]))
theorem T18_eq (i0 : Int) : progOf PROG false 18 [(.int .u64 i0)] = T18 i0 := by kernel_rfl

noncomputable def T19k0 (i0 : Int) : Ex → List Value → Pg :=
  fun e1 l2 => sw e1 .normal (asCons l2 fun v3 l4 => asBool v3 fun b5 => asNil l4 (bif b5 then (.ret .ret [(.tuple #[(.int .i64 0), (.int .i64 0), (.int .i64 0), (.bool false)])]) else (.ret .ret [(.tuple #[(.int .i64 (wi64 (Int.tdiv (wi64 (wu64 (Int.tdiv i0 2))) 16777216))), (.int .i64 (Int.tmod (wi64 (Int.tdiv (wi64 (wu64 (Int.tdiv i0 2))) 65536)) 256)), (.int .i64 (Int.tmod (wi64 (wu64 (Int.tdiv i0 2))) 65536)), (.bool true)])]))) (.fail)

/-- hindsight/hindsightref11.Split -/
noncomputable def T19 (i0 : Int) : Pg :=
  .join (bif ((Int.tmod i0 2) == 0) == false then (bif (decide ((wu64 (Int.tdiv i0 2)) ≥ 67108864)) == false then (.ret .normal [(.bool (decide ((wu64 (Int.tdiv i0 2)) < 16777216)))]) else (.ret .normal [(.bool true)])) else (.ret .normal [(.bool true)])) (T19k0 i0)
theorem T19_eq (i0 : Int) : progOf PROG false 19 [(.int .u64 i0)] = T19 i0 := by kernel_rfl

/-- hindsight/hindsightref11.Num -/
noncomputable def T20 (i0 : Int) : Pg :=
  .ret .ret [(.int .u64 (orI .u64 (shlI .u64 (wu64 i0) 1) 1))]
theorem T20_eq (i0 : Int) : progOf PROG false 20 [(.int .i64 i0)] = T20 i0 := by kernel_rfl

noncomputable def T21k0 : Ex → List Value → Pg :=
  fun e6 l7 => sw e6 .normal (asCons l7 fun v8 l9 => asInt .i64 v8 fun i10 => asNil l9 (.ret .ret [(.int .u64 (wu64 ((wu64 i10) * 2)))])) (.fail)

noncomputable def T21k1 : Ex → List Value → Pg :=
  fun e1 l2 => sw e1 .normal (asCons l2 fun v3 l4 => asInt .i64 v3 fun i5 => asNil l4 (.join (bif (decide (i5 > 2147483647)) then (.ret .normal [(.int .i64 2147483647)]) else (.ret .normal [(.int .i64 i5)])) (T21k0))) (.fail)

/-- hindsight/hindsightref11.Ptr -/
noncomputable def T21 (i0 : Int) : Pg :=
  .join (bif (decide (i0 < 0)) then (.ret .normal [(.int .i64 0)]) else (.ret .normal [(.int .i64 i0)])) (T21k1)
theorem T21_eq (i0 : Int) : progOf PROG false 21 [(.int .i64 i0)] = T21 i0 := by kernel_rfl

end Go.Pg
