/- The trees of the functions that the law reaches, written out by program; each is shown to be the function's own; then their table. -/
import Derived.Test.YtbhkeboldklodaaDoorProg
import Derived.KernelRfl
import Derived.Test.YtbhkeboldklodaaDoorPg3
namespace Go.Pg
open Go.Proofs
set_option linter.unusedVariables false
noncomputable abbrev PROG : Program := Tryd.prog

noncomputable def T10k0 (i0 : Int) : Ex → List Value → Pg :=
  fun e3 l4 => sw e3 .normal (asCons l4 fun v5 l6 => asBool v5 fun b7 => asNil l6 (bif b7 then (.ret .ret [(.int .i64 1)]) else (bif ((decide (i0 ≥ 48)) && (decide (i0 ≤ 57))) then (.ret .ret [(.int .i64 2)]) else (.ret .normal [(.int .i64 0)])))) (.fail)

noncomputable def T10k1 : Ex → List Value → Pg :=
  fun e16 l17 => sw e16 .normal (asCons l17 fun v18 l19 => asBool v18 fun b20 => asNil l19 (.ret .normal [(.bool b20)])) (.fail)

noncomputable def T10k2 : Ex → List Value → Pg :=
  fun e21 l22 => sw e21 .normal (asCons l22 fun v23 l24 => asBool v23 fun b25 => asNil l24 (.ret .normal [(.bool b25)])) (.fail)

noncomputable def T10k3 : Ex → List Value → Pg :=
  fun e31 l32 => sw e31 .normal (asCons l32 fun v33 l34 => asBool v33 fun b35 => asNil l34 (.ret .normal [(.bool b35)])) (.fail)

noncomputable def T10k4 : Ex → List Value → Pg :=
  fun e36 l37 => sw e36 .normal (asCons l37 fun v38 l39 => asBool v38 fun b40 => asNil l39 (.ret .normal [(.bool b40)])) (.fail)

noncomputable def T10k5 : Ex → List Value → Pg :=
  fun e41 l42 => sw e41 .normal (asCons l42 fun v43 l44 => asBool v43 fun b45 => asNil l44 (.ret .normal [(.bool b45)])) (.fail)

noncomputable def T10k6 : Ex → List Value → Pg :=
  fun e46 l47 => sw e46 .normal (asCons l47 fun v48 l49 => asBool v48 fun b50 => asNil l49 (.ret .normal [(.bool b50)])) (.fail)

noncomputable def T10k7 : Ex → List Value → Pg :=
  fun e51 l52 => sw e51 .normal (asCons l52 fun v53 l54 => asBool v53 fun b55 => asNil l54 (.ret .normal [(.bool b55)])) (.fail)

noncomputable def T10k8 : Ex → List Value → Pg :=
  fun e56 l57 => sw e56 .normal (asCons l57 fun v58 l59 => asBool v58 fun b60 => asNil l59 (.ret .normal [(.bool b60)])) (.fail)

noncomputable def T10k9 : Ex → List Value → Pg :=
  fun e61 l62 => sw e61 .normal (asCons l62 fun v63 l64 => asBool v63 fun b65 => asNil l64 (.ret .normal [(.bool b65)])) (.fail)

noncomputable def T10k10 : Ex → List Value → Pg :=
  fun e66 l67 => sw e66 .normal (asCons l67 fun v68 l69 => asBool v68 fun b70 => asNil l69 (.ret .normal [(.bool b70)])) (.fail)

noncomputable def T10k11 : Ex → List Value → Pg :=
  fun e71 l72 => sw e71 .normal (asCons l72 fun v73 l74 => asBool v73 fun b75 => asNil l74 (.ret .normal [(.bool b75)])) (.fail)

noncomputable def T10k12 : Ex → List Value → Pg :=
  fun e76 l77 => sw e76 .normal (asCons l77 fun v78 l79 => asBool v78 fun b80 => asNil l79 (.ret .normal [(.bool b80)])) (.fail)

noncomputable def T10k13 : Ex → List Value → Pg :=
  fun e81 l82 => sw e81 .normal (asCons l82 fun v83 l84 => asBool v83 fun b85 => asNil l84 (.ret .normal [(.bool b85)])) (.fail)

noncomputable def T10k14 (i15 : Int) : Ex → List Value → Pg :=
  fun e86 l87 => sw e86 .normal (asCons l87 fun v88 l89 => asBool v88 fun b90 => asNil l89 (bif b90 then (.ret .ret [(.int .i64 4)]) else (.ret .normal [(.int .i64 i15)]))) (.fail)

noncomputable def T10k15 (i0 : Int) (i15 : Int) : Ex → List Value → Pg :=
  fun e26 l27 => sw e26 .normal (asCons l27 fun v28 l29 => asBool v28 fun b30 => asNil l29 (bif b30 then (.ret .ret [(.int .i64 3)]) else (.join (bif (i0 == 40) then (.ret .normal [(.bool (i0 == 40))]) else (.join (bif (i0 == 41) then (.ret .normal [(.bool (i0 == 41))]) else (.join (bif (i0 == 44) then (.ret .normal [(.bool (i0 == 44))]) else (.join (bif (i0 == 59) then (.ret .normal [(.bool (i0 == 59))]) else (.join (bif (i0 == 61) then (.ret .normal [(.bool (i0 == 61))]) else (.join (bif (i0 == 60) then (.ret .normal [(.bool (i0 == 60))]) else (.join (bif (i0 == 62) then (.ret .normal [(.bool (i0 == 62))]) else (.join (bif (i0 == 43) then (.ret .normal [(.bool (i0 == 43))]) else (.join (bif (i0 == 45) then (.ret .normal [(.bool (i0 == 45))]) else (.join (bif (i0 == 42) then (.ret .normal [(.bool (i0 == 42))]) else (.join (bif (i0 == 124) then (.ret .normal [(.bool (i0 == 124))]) else (.join (bif (i0 == 33) then (.ret .normal [(.bool (i0 == 33))]) else (.ret .normal [(.bool (i0 == 58))])) (T10k3))) (T10k4))) (T10k5))) (T10k6))) (T10k7))) (T10k8))) (T10k9))) (T10k10))) (T10k11))) (T10k12))) (T10k13))) (T10k14 i15)))) (.fail)

noncomputable def T10k16 : Ex → List Value → Pg :=
  fun e91 l92 => sw e91 .ret (asCons l92 fun v93 l94 => asInt .i64 v93 fun i95 => asNil l94 (.ret .ret [(.int .i64 i95)])) (sw e91 .normal (asCons l92 fun v96 l97 => asInt .i64 v96 fun i98 => asNil l97 (.ret .ret [(.int .i64 0)])) (.fail))

noncomputable def T10k17 (i0 : Int) : Ex → List Value → Pg :=
  fun e8 l9 => sw e8 .ret (asCons l9 fun v10 l11 => asInt .i64 v10 fun i12 => asNil l11 (.ret .ret [(.int .i64 i12)])) (sw e8 .normal (asCons l9 fun v13 l14 => asInt .i64 v13 fun i15 => asNil l14 (.join (.join (bif (i0 == 32) then (.ret .normal [(.bool (i0 == 32))]) else (.join (bif (i0 == 9) then (.ret .normal [(.bool (i0 == 9))]) else (.join (bif (i0 == 10) then (.ret .normal [(.bool (i0 == 10))]) else (.ret .normal [(.bool (i0 == 13))])) (T10k1))) (T10k2))) (T10k15 i0 i15)) (T10k16))) (.fail))

/-- hindsight/chars.Class -/
noncomputable def T10 (i0 : Int) : Pg :=
  .join (.join (bif ((i0 == 95) || (i0 == 39)) == false then (.call 33 [(.int .i32 i0)] fun v1 => asBool v1 fun b2 => .ret .normal [(.bool b2)]) else (.ret .normal [(.bool true)])) (T10k0 i0)) (T10k17 i0)
theorem T10_eq (i0 : Int) : progOf PROG false 10 [(.int .i32 i0)] = T10 i0 := by kernel_rfl


noncomputable def T11k0 : Ex → List Value → Pg :=
  fun e13 l14 => sw e13 .ret (asCons l14 fun v15 l16 => asBool v15 fun b17 => asNil l16 (.ret .ret [(.bool b17)])) (.fail)

noncomputable def T11b0 (a3 : Addr) : List Value → Pg :=
  fun l4 => asCons l4 fun v5 l6 => asBool v5 fun b7 => asNil l6 (.act (nxt (some a3)) fun v8 => asNx v8 (fun i9 i10 => .join (.call 34 [(.int .i32 i10)] fun v11 => asBool v11 fun b12 => .ret .ret [(.bool b12)]) (T11k0)) (.ret (.exit 0) [(.bool b7)]))

noncomputable def T11k1 : Ex → List Value → Pg :=
  fun e18 l19 => sw e18 (.exit 0) (asCons l19 fun v20 l21 => asBool v20 fun b22 => asNil l21 (.ret .ret [(.bool false)])) (sw e18 .ret (asCons l19 fun v23 l24 => asBool v23 fun b25 => asNil l24 (.ret .ret [(.bool b25)])) (.fail))

/-- hindsight/chars.Upper -/
noncomputable def T11 (s0 : ByteArray) : Pg :=
  .act (rng s0) fun v1 => asPtr v1 fun p2 => asSome p2 fun a3 => .loop [(.bool false)] (T11b0 a3) (T11k1)
theorem T11_eq (s0 : ByteArray) : progOf PROG false 11 [(.string s0)] = T11 s0 := by kernel_rfl


noncomputable def T12k0 : Ex → List Value → Pg :=
  fun e11 l12 => sw e11 .normal (asCons l12 fun v13 l14 => asInt .i64 v13 fun i15 => asNil l14 (.ret .normal [(.int .i64 i15)])) (.fail)

noncomputable def T12b0 (a3 : Addr) : List Value → Pg :=
  fun l4 => asCons l4 fun v5 l6 => asInt .i64 v5 fun i7 => asNil l6 (.act (nxt (some a3)) fun v8 => asNx v8 (fun i9 i10 => .join (.ret .normal [(.int .i64 (wi64 (i7 + 1)))]) (T12k0)) (.ret (.exit 0) [(.int .i64 i7)]))

noncomputable def T12k1 : Ex → List Value → Pg :=
  fun e16 l17 => sw e16 (.exit 0) (asCons l17 fun v18 l19 => asInt .i64 v18 fun i20 => asNil l19 (.ret .ret [(.int .i64 i20)])) (.fail)

/-- hindsight/chars.Runes -/
noncomputable def T12 (s0 : ByteArray) : Pg :=
  .act (rng s0) fun v1 => asPtr v1 fun p2 => asSome p2 fun a3 => .loop [(.int .i64 0)] (T12b0 a3) (T12k1)
theorem T12_eq (s0 : ByteArray) : progOf PROG false 12 [(.string s0)] = T12 s0 := by kernel_rfl


noncomputable def T15k0 : Ex → List Value → Pg :=
  fun e59 l60 => sw e59 .normal (asCons l60 fun v61 l62 => asBool v61 fun b63 => asNil l62 (.ret .ret [(.bool b63)])) (.fail)

/-- hindsight/hindsightlaw24.awake -/
noncomputable def T15 : Pg :=
  .call 16 [(.string (bs [32, 32, 115, 116, 101, 112]))] fun v0 => asTuple v0 fun l1 => asCons l1 fun v2 l3 => asAgg v2 fun l4 => asCons l4 fun v5 l6 => asInt .i64 v5 fun i7 => asCons l6 fun v8 l9 => asInt .i64 v8 fun i10 => asCons l9 fun v11 l12 => asStr v11 fun s13 => asNil l12 (asCons l3 fun v14 l15 => asInt .i64 v14 fun i16 => asNil l15 (.act (newC [(.int .i64 0), (.int .i64 0), (.string (bs []))]) fun v17 => asPtr v17 fun p18 => asSome p18 fun a19 => .act (stC a19 [(.int .i64 i7), (.int .i64 i10), (.string s13)]) fun v20 => asTuple v20 fun l21 => asNil l21 (.join (bif (i16 == 0) == true then (.act (ldN 3 a19) fun v22 => asAgg v22 fun l23 => asCons l23 fun v24 l25 => asInt .i64 v24 fun i26 => asCons l25 fun v27 l28 => asInt .i64 v27 fun i29 => asCons l28 fun v30 l31 => asStr v30 fun s32 => asNil l31 (bif ((i26 == 3) && ((i29 == 1) && ((s32.toList == (bs []).toList) && true))) == true then (.act (ldN 3 a19) fun v33 => asAgg v33 fun l34 => asCons l34 fun v35 l36 => asInt .i64 v35 fun i37 => asCons l36 fun v38 l39 => asInt .i64 v38 fun i40 => asCons l39 fun v41 l42 => asStr v41 fun s43 => asNil l42 (.call 17 [(.agg #[(.int .i64 i37), (.int .i64 i40), (.string s43)])] fun v44 => asStr v44 fun s45 => bif (s45.toList == (bs [115, 116, 101, 112, 32, 49]).toList) == true then (.act (ldN 3 a19) fun v46 => asAgg v46 fun l47 => asCons l47 fun v48 l49 => asInt .i64 v48 fun i50 => asCons l49 fun v51 l52 => asInt .i64 v51 fun i53 => asCons l52 fun v54 l55 => asStr v54 fun s56 => asNil l55 (.call 18 [(.agg #[(.int .i64 i50), (.int .i64 i53), (.string s56)])] fun v57 => asBool v57 fun b58 => .ret .normal [(.bool b58)])) else (.ret .normal [(.bool false)]))) else (.ret .normal [(.bool false)]))) else (.ret .normal [(.bool false)])) (T15k0))))
theorem T15_eq : progOf PROG false 15 [] = T15 := by kernel_rfl


/-- hindsight/cmd.Parse -/
noncomputable def T16 (s0 : ByteArray) : Pg :=
  .act (newC [(.int .i64 0), (.int .i64 0), (.string (bs []))]) fun v1 => asPtr v1 fun p2 => asSome p2 fun a3 => .call 37 [(.string s0)] fun v4 => asSlice v4 fun p5 n6 n7 => bif (((n6 : Nat) : Int) == 0) then (.act (stC a3 [(.int .i64 0), (.int .i64 0), (.string (bs []))]) fun v8 => asTuple v8 fun l9 => asNil l9 (.act (ldN 3 a3) fun v10 => .ret .ret [(.tuple #[v10, (.int .i64 13)])])) else (asSome p5 fun a11 => grd (decide (0 < ((n6 : Nat) : Int))) (.act (ld1 (aadd a11 0)) fun v12 => asStr v12 fun s13 => .call 38 [(.string s13)] fun v14 => asInt .i64 v14 fun i15 => grd ((((decide (1 ≤ ((n6 : Nat) : Int))) && (decide (((n6 : Nat) : Int) ≤ ((n7 : Nat) : Int)))) && (decide (((n7 : Nat) : Int) ≤ ((n7 : Nat) : Int)))) && ((mayCut p5 1) || false)) (.call 39 [(.int .i64 i15), (.slice (cutS p5 1) (n6 - 1) (n7 - 1))] fun v16 => asTuple v16 fun l17 => asCons l17 fun v18 l19 => asAgg v18 fun l20 => asCons l20 fun v21 l22 => asInt .i64 v21 fun i23 => asCons l22 fun v24 l25 => asInt .i64 v24 fun i26 => asCons l25 fun v27 l28 => asStr v27 fun s29 => asNil l28 (asCons l19 fun v30 l31 => asBool v30 fun b32 => asNil l31 (.act (newC [(.int .i64 0), (.int .i64 0), (.string (bs []))]) fun v33 => asPtr v33 fun p34 => asSome p34 fun a35 => .act (stC a35 [(.int .i64 i23), (.int .i64 i26), (.string s29)]) fun v36 => asTuple v36 fun l37 => asNil l37 (bif ((i15 == 0) || (!b32)) then (.act (stC a3 [(.int .i64 0), (.int .i64 0), (.string (bs []))]) fun v38 => asTuple v38 fun l39 => asNil l39 (.act (ldN 3 a3) fun v40 => .ret .ret [(.tuple #[v40, (.int .i64 13)])])) else (.act (ldN 3 a35) fun v41 => asAgg v41 fun l42 => asCons l42 fun v43 l44 => asInt .i64 v43 fun i45 => asCons l44 fun v46 l47 => asInt .i64 v46 fun i48 => asCons l47 fun v49 l50 => asStr v49 fun s51 => asNil l50 (.act (stC a3 [(.int .i64 i45), (.int .i64 i48), (.string s51)]) fun v52 => asTuple v52 fun l53 => asNil l53 (.act (ldN 3 a3) fun v54 => .ret .ret [(.tuple #[v54, (.int .i64 0)])])))))))))
theorem T16_eq (s0 : ByteArray) : progOf PROG false 16 [(.string s0)] = T16 s0 := by kernel_rfl


/-- hindsight/cmd.words -/
noncomputable def T37 (s0 : ByteArray) : Pg :=
  .call 65 [(.string s0), (.func (.func 66) #[] #[])] fun v1 => asSlice v1 fun p2 n3 n4 => .ret .ret [(.slice p2 n3 n4)]
theorem T37_eq (s0 : ByteArray) : progOf PROG false 37 [(.string s0)] = T37 s0 := by kernel_rfl


noncomputable def T38k0 (i4 : Int) : Ex → List Value → Pg :=
  fun e10 l11 => sw e10 .ret (asCons l11 fun v12 l13 => asInt .i64 v12 fun i14 => asNil l13 (.ret .ret [(.int .i64 i4), (.int .i64 i14)])) (sw e10 .normal (asCons l11 fun v15 l16 => asInt .i64 v15 fun i17 => asNil l16 (.ret .normal [(.int .i64 (wi64 (i4 + 1))), (.int .i64 i17)])) (.fail))

noncomputable def T38b0 (s0 : ByteArray) : List Value → Pg :=
  fun l1 => asCons l1 fun v2 l3 => asInt .i64 v2 fun i4 => asCons l3 fun v5 l6 => asInt .i64 v5 fun i7 => asNil l6 (bif (decide (i4 ≤ 17)) then (.join (.call 40 [(.int .i64 i4)] fun v8 => asStr v8 fun s9 => bif (s9.toList == s0.toList) then (.ret .ret [(.int .i64 i4)]) else (.ret .normal [(.int .i64 i7)])) (T38k0 i4)) else (.ret (.exit 0) [(.int .i64 i4), (.int .i64 i7)]))

noncomputable def T38k1 : Ex → List Value → Pg :=
  fun e18 l19 => sw e18 (.exit 0) (asCons l19 fun v20 l21 => asInt .i64 v20 fun i22 => asCons l21 fun v23 l24 => asInt .i64 v23 fun i25 => asNil l24 (.ret .ret [(.int .i64 0)])) (sw e18 .ret (asCons l19 fun v26 l27 => asInt .i64 v26 fun i28 => asCons l27 fun v29 l30 => asInt .i64 v29 fun i31 => asNil l30 (.ret .ret [(.int .i64 i31)])) (.fail))

/-- hindsight/cmd.find -/
noncomputable def T38 (s0 : ByteArray) : Pg :=
  .loop [(.int .i64 1), (.int .i64 0)] (T38b0 s0) (T38k1)
theorem T38_eq (s0 : ByteArray) : progOf PROG false 38 [(.string s0)] = T38 s0 := by kernel_rfl


noncomputable def T39k0 (p1 : (Option Addr)) (n2 : Nat) (a9 : Addr) (a6 : Addr) : Ex → List Value → Pg :=
  fun e76 l77 => sw e76 .normal (asCons l77 fun v78 l79 => asBool v78 fun b80 => asNil l79 (bif b80 then (asSome p1 fun a81 => grd (decide (0 < ((n2 : Nat) : Int))) (.act (ld1 (aadd a81 0)) fun v82 => asStr v82 fun s83 => .act (stC (aadd a9 2) [(.string s83)]) fun v84 => asTuple v84 fun l85 => asNil l85 (.act (ldN 3 a9) fun v86 => asAgg v86 fun l87 => asCons l87 fun v88 l89 => asInt .i64 v88 fun i90 => asCons l89 fun v91 l92 => asInt .i64 v91 fun i93 => asCons l92 fun v94 l95 => asStr v94 fun s96 => asNil l95 (asSome p1 fun a97 => grd (decide (0 < ((n2 : Nat) : Int))) (.act (ld1 (aadd a97 0)) fun v98 => asStr v98 fun s99 => .call 44 [(.string s99)] fun v100 => asBool v100 fun b101 => .get fun h104 => grd (chks [((ldN 3 a9), v86)] h104) (.act (stC a6 [(.int .i64 i90), (.int .i64 i93), (.string s96)]) fun v102 => asTuple v102 fun l103 => asNil l103 (.ret .ret [(.bool b101)]))))))) else (.ret .normal [(.bool false)]))) (.fail)

noncomputable def T39k1 (p1 : (Option Addr)) (n2 : Nat) (a9 : Addr) (a6 : Addr) (i16 : Int) (i0 : Int) : Ex → List Value → Pg :=
  fun e43 l44 => sw e43 .normal (asCons l44 fun v45 l46 => asBool v45 fun b47 => asNil l46 (bif b47 then (asSome p1 fun a48 => grd (decide (0 < ((n2 : Nat) : Int))) (.act (ld1 (aadd a48 0)) fun v49 => asStr v49 fun s50 => .call 67 [(.string s50)] fun v51 => asTuple v51 fun l52 => asCons l52 fun v53 l54 => asInt .i64 v53 fun i55 => asCons l54 fun v56 l57 => asBool v56 fun b58 => asNil l57 (.act (stC (aadd a9 1) [(.int .i64 i55)]) fun v59 => asTuple v59 fun l60 => asNil l60 (.act (ldN 3 a9) fun v61 => asAgg v61 fun l62 => asCons l62 fun v63 l64 => asInt .i64 v63 fun i65 => asCons l64 fun v66 l67 => asInt .i64 v66 fun i68 => asCons l67 fun v69 l70 => asStr v69 fun s71 => asNil l70 (.act (stC a6 [(.int .i64 i65), (.int .i64 i68), (.string s71)]) fun v72 => asTuple v72 fun l73 => asNil l73 (.ret .ret [(.bool (b58 && (decide (i55 ≥ i16))))])))))) else (.join (.call 42 [(.int .i64 i0)] fun v74 => asBool v74 fun b75 => bif b75 == true then (.ret .normal [(.bool (((n2 : Nat) : Int) == 1))]) else (.ret .normal [(.bool false)])) (T39k0 p1 n2 a9 a6)))) (.fail)

noncomputable def T39k2 (a9 : Addr) (a6 : Addr) (b22 : Bool) (n2 : Nat) (p1 : (Option Addr)) (i16 : Int) (i0 : Int) : Ex → List Value → Pg :=
  fun e23 l24 => sw e23 .normal (asCons l24 fun v25 l26 => asBool v25 fun b27 => asNil l26 (bif b27 then (.act (stC (aadd a9 1) [(.int .i64 1)]) fun v28 => asTuple v28 fun l29 => asNil l29 (.act (ldN 3 a9) fun v30 => asAgg v30 fun l31 => asCons l31 fun v32 l33 => asInt .i64 v32 fun i34 => asCons l33 fun v35 l36 => asInt .i64 v35 fun i37 => asCons l36 fun v38 l39 => asStr v38 fun s40 => asNil l39 (.act (stC a6 [(.int .i64 i34), (.int .i64 i37), (.string s40)]) fun v41 => asTuple v41 fun l42 => asNil l42 (.ret .ret [(.bool true)])))) else (.join (bif b22 == true then (.ret .normal [(.bool (((n2 : Nat) : Int) == 1))]) else (.ret .normal [(.bool false)])) (T39k1 p1 n2 a9 a6 i16 i0)))) (.fail)

noncomputable def T39k3 (a6 : Addr) : Ex → List Value → Pg :=
  fun e134 l135 => sw e134 .normal (asCons l135 fun v136 l137 => asBool v136 fun b138 => asNil l137 (.act (ldN 3 a6) fun v139 => .ret .ret [(.tuple #[v139, (.bool b138)])])) (.fail)

noncomputable def T39k4 (a6 : Addr) (a9 : Addr) (b22 : Bool) (i0 : Int) (n2 : Nat) : Ex → List Value → Pg :=
  fun e105 l106 => sw e105 .ret (asCons l106 fun v107 l108 => asBool v107 fun b109 => asNil l108 (.act (ldN 3 a6) fun v110 => .ret .ret [(.tuple #[v110, (.bool b109)])])) (sw e105 .normal (asCons l106 fun v111 l112 => asBool v111 fun b113 => asNil l112 (.join (.act (ldN 3 a9) fun v114 => asAgg v114 fun l115 => asCons l115 fun v116 l117 => asInt .i64 v116 fun i118 => asCons l117 fun v119 l120 => asInt .i64 v119 fun i121 => asCons l120 fun v122 l123 => asStr v122 fun s124 => asNil l123 (bif (!b22) == true then (.call 42 [(.int .i64 i0)] fun v125 => asBool v125 fun b126 => .get fun h131 => grd (chks [((ldN 3 a9), v114)] h131) (bif (!b126) == true then (.act (stC a6 [(.int .i64 i118), (.int .i64 i121), (.string s124)]) fun v127 => asTuple v127 fun l128 => asNil l128 (.ret .normal [(.bool (((n2 : Nat) : Int) == 0))])) else (.act (stC a6 [(.int .i64 i118), (.int .i64 i121), (.string s124)]) fun v129 => asTuple v129 fun l130 => asNil l130 (.ret .normal [(.bool false)])))) else (.act (stC a6 [(.int .i64 i118), (.int .i64 i121), (.string s124)]) fun v132 => asTuple v132 fun l133 => asNil l133 (.ret .normal [(.bool false)])))) (T39k3 a6))) (.fail))

/-- hindsight/cmd.filled -/
noncomputable def T39 (i0 : Int) (p1 : (Option Addr)) (n2 : Nat) (n3 : Nat) : Pg :=
  .act (newC [(.int .i64 0), (.int .i64 0), (.string (bs []))]) fun v4 => asPtr v4 fun p5 => asSome p5 fun a6 => .act (newC [(.int .i64 0), (.int .i64 0), (.string (bs []))]) fun v7 => asPtr v7 fun p8 => asSome p8 fun a9 => .act (stC a9 [(.int .i64 i0), (.int .i64 0), (.string (bs []))]) fun v10 => asTuple v10 fun l11 => asNil l11 (.call 41 [(.int .i64 i0)] fun v12 => asTuple v12 fun l13 => asCons l13 fun v14 l15 => asInt .i64 v14 fun i16 => asCons l15 fun v17 l18 => asBool v17 fun b19 => asCons l18 fun v20 l21 => asBool v20 fun b22 => asNil l21 (.join (.join (bif (b22 && b19) == true then (.ret .normal [(.bool (((n2 : Nat) : Int) == 0))]) else (.ret .normal [(.bool false)])) (T39k2 a9 a6 b22 n2 p1 i16 i0)) (T39k4 a6 a9 b22 i0 n2)))
theorem T39_eq (i0 : Int) (p1 : (Option Addr)) (n2 : Nat) (n3 : Nat) : progOf PROG false 39 [(.int .i64 i0), (.slice p1 n2 n3)] = T39 i0 p1 n2 n3 := by kernel_rfl


noncomputable def T40k0 (i0 : Int) : Ex → List Value → Pg :=
  fun e1 l2 => sw e1 .ret (asCons l2 fun v3 l4 => asStr v3 fun s5 => asNil l4 (.ret .ret [(.string s5)])) (sw e1 .normal (asCons l2 fun v6 l7 => asStr v6 fun s8 => asNil l7 (.call 68 [(.int .i64 i0)] fun v9 => asStr v9 fun s10 => .ret .ret [(.string s10)])) (.fail))

/-- hindsight/cmd.word -/
noncomputable def T40 (i0 : Int) : Pg :=
  .join (bif (i0 == 1) then (.ret .ret [(.string (bs [98, 114, 101, 97, 107]))]) else (bif (i0 == 2) then (.ret .ret [(.string (bs [100, 101, 108, 101, 116, 101]))]) else (bif (i0 == 3) then (.ret .ret [(.string (bs [115, 116, 101, 112]))]) else (bif (i0 == 4) then (.ret .ret [(.string (bs [110, 101, 120, 116]))]) else (bif (i0 == 5) then (.ret .ret [(.string (bs [102, 105, 110, 105, 115, 104]))]) else (bif (i0 == 6) then (.ret .ret [(.string (bs [99, 111, 110, 116, 105, 110, 117, 101]))]) else (bif (i0 == 7) then (.ret .ret [(.string (bs [98, 97, 99, 107]))]) else (bif (i0 == 8) then (.ret .ret [(.string (bs [114, 110, 101, 120, 116]))]) else (bif (i0 == 9) then (.ret .ret [(.string (bs [114, 99, 111, 110, 116, 105, 110, 117, 101]))]) else (.ret .normal [(.string (bs []))])))))))))) (T40k0 i0)
theorem T40_eq (i0 : Int) : progOf PROG false 40 [(.int .i64 i0)] = T40 i0 := by kernel_rfl


noncomputable def T41k0 (i0 : Int) : Ex → List Value → Pg :=
  fun e6 l7 => sw e6 .normal (asCons l7 fun v8 l9 => asBool v8 fun b10 => asNil l9 (bif b10 then (.ret .ret [(.bool true), (.bool true), (.int .i64 1)]) else (bif (i0 == 10) then (.ret .ret [(.bool true), (.bool false), (.int .i64 0)]) else (.ret .normal [(.bool false), (.bool false), (.int .i64 0)])))) (.fail)

noncomputable def T41k1 (i0 : Int) : Ex → List Value → Pg :=
  fun e1 l2 => sw e1 .normal (asCons l2 fun v3 l4 => asBool v3 fun b5 => asNil l4 (bif b5 then (.ret .ret [(.bool true), (.bool false), (.int .i64 1)]) else (.join (bif (i0 == 3) then (.ret .normal [(.bool (i0 == 3))]) else (.ret .normal [(.bool (i0 == 7))])) (T41k0 i0)))) (.fail)

noncomputable def T41k2 : Ex → List Value → Pg :=
  fun e11 l12 => sw e11 .ret (asCons l12 fun v13 l14 => asBool v13 fun b15 => asCons l14 fun v16 l17 => asBool v16 fun b18 => asCons l17 fun v19 l20 => asInt .i64 v19 fun i21 => asNil l20 (.ret .ret [(.tuple #[(.int .i64 i21), (.bool b18), (.bool b15)])])) (sw e11 .normal (asCons l12 fun v22 l23 => asBool v22 fun b24 => asCons l23 fun v25 l26 => asBool v25 fun b27 => asCons l26 fun v28 l29 => asInt .i64 v28 fun i30 => asNil l29 (.ret .ret [(.tuple #[(.int .i64 0), (.bool false), (.bool false)])])) (.fail))

/-- hindsight/cmd.counted -/
noncomputable def T41 (i0 : Int) : Pg :=
  .join (.join (bif (i0 == 1) then (.ret .normal [(.bool (i0 == 1))]) else (.ret .normal [(.bool (i0 == 2))])) (T41k1 i0)) (T41k2)
theorem T41_eq (i0 : Int) : progOf PROG false 41 [(.int .i64 i0)] = T41 i0 := by kernel_rfl


/-- hindsight/cmd.named -/
noncomputable def T42 (i0 : Int) : Pg :=
  .ret .ret [(.bool (((i0 == 13) || (i0 == 16)) || (i0 == 17)))]
theorem T42_eq (i0 : Int) : progOf PROG false 42 [(.int .i64 i0)] = T42 i0 := by kernel_rfl


/-- strconv.FormatInt -/
noncomputable def T43 (i0 : Int) (i1 : Int) : Pg :=
  .call 69 [(.int .i64 i0), (.int .i64 i1)] fun v2 => asStr v2 fun s3 => .ret .ret [(.string s3)]
theorem T43_eq (i0 : Int) (i1 : Int) : progOf PROG false 43 [(.int .i64 i0), (.int .i64 i1)] = T43 i0 i1 := by kernel_rfl


noncomputable def T44k0 : Ex → List Value → Pg :=
  fun e22 l23 => sw e22 .ret (asCons l23 fun v24 l25 => asBool v24 fun b26 => asNil l25 (.ret .ret [(.bool b26)])) (sw e22 .normal (asCons l23 fun v27 l28 => asBool v27 fun b29 => asNil l28 (.ret .normal [(.bool b29)])) (.fail))

noncomputable def T44b0 (a12 : Addr) : List Value → Pg :=
  fun l13 => asCons l13 fun v14 l15 => asBool v14 fun b16 => asNil l15 (.act (nxt (some a12)) fun v17 => asNx v17 (fun i18 i19 => .join (.call 10 [(.int .i32 i19)] fun v20 => asInt .i64 v20 fun i21 => bif ((i21 != 1) && ((i18 == 0) || (i21 != 2))) then (.ret .ret [(.bool false)]) else (.ret .normal [(.bool b16)])) (T44k0)) (.ret (.exit 0) [(.bool b16)]))

noncomputable def T44k1 : Ex → List Value → Pg :=
  fun e30 l31 => sw e30 (.exit 0) (asCons l31 fun v32 l33 => asBool v32 fun b34 => asNil l33 (.ret .ret [(.bool true)])) (sw e30 .ret (asCons l31 fun v35 l36 => asBool v35 fun b37 => asNil l36 (.ret .ret [(.bool b37)])) (.fail))

noncomputable def T44k2 (s0 : ByteArray) : Ex → List Value → Pg :=
  fun e5 l6 => sw e5 .normal (asCons l6 fun v7 l8 => asBool v7 fun b9 => asNil l8 (bif b9 then (.ret .ret [(.bool false)]) else (.act (rng s0) fun v10 => asPtr v10 fun p11 => asSome p11 fun a12 => .loop [(.bool false)] (T44b0 a12) (T44k1)))) (.fail)

/-- hindsight/cmd.name -/
noncomputable def T44 (s0 : ByteArray) : Pg :=
  .join (bif (s0.toList == (bs []).toList) == false then (.call 11 [(.string s0)] fun v1 => asBool v1 fun b2 => bif b2 == false then (grd (decide (0 < ((s0.size : Nat) : Int))) (bif ((byteAt s0 0) == 39) == false then (.call 12 [(.string s0)] fun v3 => asInt .i64 v3 fun i4 => .ret .normal [(.bool (decide (i4 > 40)))]) else (.ret .normal [(.bool true)]))) else (.ret .normal [(.bool true)])) else (.ret .normal [(.bool true)])) (T44k2 s0)
theorem T44_eq (s0 : ByteArray) : progOf PROG false 44 [(.string s0)] = T44 s0 := by kernel_rfl


noncomputable def T65k0 : Ex → List Value → Pg :=
  fun e34 l35 => sw e34 .normal (asCons l35 fun v36 l37 => asInt .i64 v36 fun i38 => asCons l37 fun v39 l40 => asSlice v39 fun p41 n42 n43 => asNil l40 (.ret .normal [(.int .i64 i38), (.slice p41 n42 n43)])) (.fail)

noncomputable def T65k1 (p15 : (Option Addr)) (n16 : Nat) (n17 : Nat) : Ex → List Value → Pg :=
  fun e44 l45 => sw e44 .normal (asCons l45 fun v46 l47 => asInt .i64 v46 fun i48 => asNil l47 (.ret .normal [(.int .i64 i48), (.slice p15 n16 n17)])) (.fail)

noncomputable def T65k2 : Ex → List Value → Pg :=
  fun e49 l50 => sw e49 .normal (asCons l50 fun v51 l52 => asInt .i64 v51 fun i53 => asCons l52 fun v54 l55 => asSlice v54 fun p56 n57 n58 => asNil l55 (.ret .normal [(.int .i64 i53), (.slice p56 n57 n58)])) (.fail)

noncomputable def T65k3 : Ex → List Value → Pg :=
  fun e59 l60 => sw e59 .normal (asCons l60 fun v61 l62 => asInt .i64 v61 fun i63 => asCons l62 fun v64 l65 => asSlice v64 fun p66 n67 n68 => asNil l65 (.ret .normal [(.int .i64 i63), (.slice p66 n67 n68)])) (.fail)

noncomputable def T65b0 (a8 : Addr) (v1 : Value) : List Value → Pg :=
  fun l9 => asCons l9 fun v10 l11 => asInt .i64 v10 fun i12 => asCons l11 fun v13 l14 => asSlice v13 fun p15 n16 n17 => asNil l14 (.act (nxt (some a8)) fun v18 => asNx v18 (fun i19 i20 => .join (asFunc v1 fun n21 l22 l23 => .call n21 (l22 ++ [(.int .i32 i20)] ++ l23) fun v24 => asBool v24 fun b25 => .join (bif b25 then (.join (bif (decide (i12 ≥ 0)) then (.act (bdSl 2 1 [(.int .i64 i12), (.int .i64 i19)]) fun v26 => asSlice v26 fun p27 n28 n29 => .act (apS 2 16 p15 n16 n17 p27 n28 n29) fun v30 => asSlice v30 fun p31 n32 n33 => .ret .normal [(.int .i64 (xorI .i64 (-1) i12)), (.slice p31 n32 n33)]) else (.ret .normal [(.int .i64 i12), (.slice p15 n16 n17)])) (T65k0)) else (.join (bif (decide (i12 < 0)) then (.ret .normal [(.int .i64 i19)]) else (.ret .normal [(.int .i64 i12)])) (T65k1 p15 n16 n17))) (T65k2)) (T65k3)) (.ret (.exit 0) [(.int .i64 i12), (.slice p15 n16 n17)]))

noncomputable def T65k4 (i101 : Int) : Ex → List Value → Pg :=
  fun e123 l124 => sw e123 .normal (asNil l124 (.ret .normal [(.int .i64 (wi64 (i101 + 1)))])) (.fail)

noncomputable def T65b1 (n92 : Nat) (p91 : (Option Addr)) (s0 : ByteArray) (p95 : (Option Addr)) (n96 : Nat) : List Value → Pg :=
  fun l98 => asCons l98 fun v99 l100 => asInt .i64 v99 fun i101 => asNil l100 (bif (decide (i101 < ((n92 : Nat) : Int))) then (.join (asSome p91 fun a102 => grd ((decide (0 ≤ i101)) && (decide (i101 < ((n92 : Nat) : Int)))) (.act (ldN 2 (aadd a102 ((Int.toNat i101) * 2))) fun v103 => asAgg v103 fun l104 => asCons l104 fun v105 l106 => asInt .i64 v105 fun i107 => asCons l106 fun v108 l109 => asInt .i64 v108 fun i110 => asNil l109 (.act (newC [(.int .i64 0), (.int .i64 0)]) fun v111 => asPtr v111 fun p112 => asSome p112 fun a113 => .act (stC a113 [(.int .i64 i107), (.int .i64 i110)]) fun v114 => asTuple v114 fun l115 => asNil l115 (.act (ld1 (aadd a113 0)) fun v116 => asInt .i64 v116 fun i117 => .act (ld1 (aadd a113 1)) fun v118 => asInt .i64 v118 fun i119 => grd (((decide (0 ≤ i117)) && (decide (i117 ≤ i119))) && (decide (i119 ≤ ((s0.size : Nat) : Int)))) (asSome p95 fun a120 => grd ((decide (0 ≤ i101)) && (decide (i101 < ((n96 : Nat) : Int)))) (.act (stC (aadd a120 ((Int.toNat i101) * 1)) [(.string (s0.extract (Int.toNat i117) (Int.toNat i119)))]) fun v121 => asTuple v121 fun l122 => asNil l122 (.ret .normal []))))))) (T65k4 i101)) else (.ret (.exit 2) [(.int .i64 i101)]))

noncomputable def T65k5 (p95 : (Option Addr)) (n96 : Nat) (n97 : Nat) : Ex → List Value → Pg :=
  fun e125 l126 => sw e125 (.exit 2) (asCons l126 fun v127 l128 => asInt .i64 v127 fun i129 => asNil l128 (.ret .ret [(.slice p95 n96 n97)])) (.fail)

noncomputable def T65k6 (s0 : ByteArray) : Ex → List Value → Pg :=
  fun e87 l88 => sw e87 .normal (asCons l88 fun v89 l90 => asSlice v89 fun p91 n92 n93 => asNil l90 (.act (mkSl 1 16 [(.string (bs []))] ((n92 : Nat) : Int) ((n92 : Nat) : Int)) fun v94 => asSlice v94 fun p95 n96 n97 => .loop [(.int .i64 0)] (T65b1 n92 p91 s0 p95 n96) (T65k5 p95 n96 n97))) (.fail)

noncomputable def T65k7 (s0 : ByteArray) : Ex → List Value → Pg :=
  fun e69 l70 => sw e69 (.exit 0) (asCons l70 fun v71 l72 => asInt .i64 v71 fun i73 => asCons l72 fun v74 l75 => asSlice v74 fun p76 n77 n78 => asNil l75 (.join (bif (decide (i73 ≥ 0)) then (.act (bdSl 2 1 [(.int .i64 i73), (.int .i64 ((s0.size : Nat) : Int))]) fun v79 => asSlice v79 fun p80 n81 n82 => .act (apS 2 16 p76 n77 n78 p80 n81 n82) fun v83 => asSlice v83 fun p84 n85 n86 => .ret .normal [(.slice p84 n85 n86)]) else (.ret .normal [(.slice p76 n77 n78)])) (T65k6 s0))) (.fail)

/-- strings.FieldsFunc -/
noncomputable def T65 (s0 : ByteArray) (v1 : Value) : Pg :=
  .act (mkSl 2 16 [(.int .i64 0), (.int .i64 0)] 0 32) fun v2 => asSlice v2 fun p3 n4 n5 => .act (rng s0) fun v6 => asPtr v6 fun p7 => asSome p7 fun a8 => .loop [(.int .i64 (-1)), (.slice p3 n4 n5)] (T65b0 a8 v1) (T65k7 s0)
theorem T65_eq (s0 : ByteArray) (v1 : Value) : progOf PROG false 65 [(.string s0), v1] = T65 s0 v1 := by kernel_rfl


/-- hindsight/cmd.words$1 -/
noncomputable def T66 (i0 : Int) : Pg :=
  .call 10 [(.int .i32 i0)] fun v1 => asInt .i64 v1 fun i2 => .ret .ret [(.bool (i2 == 3))]
theorem T66_eq (i0 : Int) : progOf PROG false 66 [(.int .i32 i0)] = T66 i0 := by kernel_rfl


noncomputable def T67k0 : Ex → List Value → Pg :=
  fun e24 l25 => sw e24 .ret (asCons l25 fun v26 l27 => asInt .i64 v26 fun i28 => asCons l27 fun v29 l30 => asBool v29 fun b31 => asCons l30 fun v32 l33 => asInt .i64 v32 fun i34 => asNil l33 (.ret .ret [(.int .i64 i28), (.bool b31), (.int .i64 i34)])) (sw e24 .normal (asCons l25 fun v35 l36 => asInt .i64 v35 fun i37 => asCons l36 fun v38 l39 => asBool v38 fun b40 => asCons l39 fun v41 l42 => asInt .i64 v41 fun i43 => asNil l42 (.ret .normal [(.int .i64 i37), (.bool b40), (.int .i64 i43)])) (.fail))

noncomputable def T67b0 (a8 : Addr) : List Value → Pg :=
  fun l9 => asCons l9 fun v10 l11 => asInt .i64 v10 fun i12 => asCons l11 fun v13 l14 => asBool v13 fun b15 => asCons l14 fun v16 l17 => asInt .i64 v16 fun i18 => asNil l17 (.act (nxt (some a8)) fun v19 => asNx v19 (fun i20 i21 => .join (.call 10 [(.int .i32 i21)] fun v22 => asInt .i64 v22 fun i23 => bif (i23 != 2) then (.ret .ret [(.int .i64 i12), (.bool false), (.int .i64 0)]) else (.ret .normal [(.int .i64 (wi64 ((wi64 (10 * i12)) + (wi64 (wi32 (i21 - 48)))))), (.bool b15), (.int .i64 i18)])) (T67k0)) (.ret (.exit 0) [(.int .i64 i12), (.bool b15), (.int .i64 i18)]))

noncomputable def T67k1 : Ex → List Value → Pg :=
  fun e44 l45 => sw e44 (.exit 0) (asCons l45 fun v46 l47 => asInt .i64 v46 fun i48 => asCons l47 fun v49 l50 => asBool v49 fun b51 => asCons l50 fun v52 l53 => asInt .i64 v52 fun i54 => asNil l53 (.ret .ret [(.tuple #[(.int .i64 i48), (.bool true)])])) (sw e44 .ret (asCons l45 fun v55 l56 => asInt .i64 v55 fun i57 => asCons l56 fun v58 l59 => asBool v58 fun b60 => asCons l59 fun v61 l62 => asInt .i64 v61 fun i63 => asNil l62 (.ret .ret [(.tuple #[(.int .i64 i63), (.bool b60)])])) (.fail))

noncomputable def T67k2 (s0 : ByteArray) : Ex → List Value → Pg :=
  fun e1 l2 => sw e1 .normal (asCons l2 fun v3 l4 => asBool v3 fun b5 => asNil l4 (bif b5 then (.ret .ret [(.tuple #[(.int .i64 0), (.bool false)])]) else (.act (rng s0) fun v6 => asPtr v6 fun p7 => asSome p7 fun a8 => .loop [(.int .i64 0), (.bool false), (.int .i64 0)] (T67b0 a8) (T67k1)))) (.fail)

/-- hindsight/cmd.number -/
noncomputable def T67 (s0 : ByteArray) : Pg :=
  .join (bif (decide (((s0.size : Nat) : Int) < 1)) == false then (.ret .normal [(.bool (decide (((s0.size : Nat) : Int) > 9)))]) else (.ret .normal [(.bool true)])) (T67k2 s0)
theorem T67_eq (s0 : ByteArray) : progOf PROG false 67 [(.string s0)] = T67 s0 := by kernel_rfl


noncomputable def T68k0 : Ex → List Value → Pg :=
  fun e1 l2 => sw e1 .ret (asCons l2 fun v3 l4 => asStr v3 fun s5 => asNil l4 (.ret .ret [(.string s5)])) (sw e1 .normal (asCons l2 fun v6 l7 => asStr v6 fun s8 => asNil l7 (.ret .ret [(.string (bs []))])) (.fail))

/-- hindsight/cmd.other -/
noncomputable def T68 (i0 : Int) : Pg :=
  .join (bif (i0 == 10) then (.ret .ret [(.string (bs [103, 111, 116, 111]))]) else (bif (i0 == 11) then (.ret .ret [(.string (bs [119, 104, 101, 114, 101]))]) else (bif (i0 == 12) then (.ret .ret [(.string (bs [108, 111, 99, 97, 108, 115]))]) else (bif (i0 == 13) then (.ret .ret [(.string (bs [112, 114, 105, 110, 116]))]) else (bif (i0 == 14) then (.ret .ret [(.string (bs [98, 97, 99, 107, 116, 114, 97, 99, 101]))]) else (bif (i0 == 15) then (.ret .ret [(.string (bs [111, 117, 116]))]) else (bif (i0 == 16) then (.ret .ret [(.string (bs [119, 97, 116, 99, 104]))]) else (bif (i0 == 17) then (.ret .ret [(.string (bs [117, 110, 119, 97, 116, 99, 104]))]) else (.ret .normal [(.string (bs []))]))))))))) (T68k0)
theorem T68_eq (i0 : Int) : progOf PROG false 68 [(.int .i64 i0)] = T68 i0 := by kernel_rfl


noncomputable def T69k0 (a6 : Addr) (i0 : Int) : Ex → List Value → Pg :=
  fun e7 l8 => sw e7 .normal (asCons l8 fun v9 l10 => asInt .u64 v9 fun i11 => asNil l10 (.call 85 [(.int .u64 i11)] fun v12 => asInt .i64 v12 fun i13 => grd ((decide (1 ≤ (wi64 (1 + i13)))) && (decide ((wi64 (1 + i13)) ≤ 24))) (.call 86 [(.slice (some (aadd (asRow a6 1) 1)) ((Int.toNat (wi64 (1 + i13))) - 1) 23), (.int .u64 i11)] fun v14 => asTuple v14 fun l15 => asNil l15 (bif (decide (i0 < 0)) then (.act (stC (aadd a6 0) [(.int .u8 45)]) fun v16 => asTuple v16 fun l17 => asNil l17 (grd ((decide (0 ≤ (wi64 (1 + i13)))) && (decide ((wi64 (1 + i13)) ≤ 24))) (.act (bytesToStringAct (.slice (some (aadd (asRow a6 1) 0)) (Int.toNat (wi64 (1 + i13))) 24)) fun v18 => asStr v18 fun s19 => .ret .ret [(.string s19)]))) else (grd ((decide (1 ≤ (wi64 (1 + i13)))) && (decide ((wi64 (1 + i13)) ≤ 24))) (.act (bytesToStringAct (.slice (some (aadd (asRow a6 1) 1)) ((Int.toNat (wi64 (1 + i13))) - 1) 23)) fun v20 => asStr v20 fun s21 => .ret .ret [(.string s21)])))))) (.fail)

/-- internal/strconv.FormatInt -/
noncomputable def T69 (i0 : Int) (i1 : Int) : Pg :=
  bif (i1 == 10) then (bif ((decide (0 ≤ i0)) && (decide (i0 < 100))) then (.call 84 [(.int .i64 i0)] fun v2 => asStr v2 fun s3 => .ret .ret [(.string s3)]) else (.act (newC [(.int .u8 0), (.int .u8 0), (.int .u8 0), (.int .u8 0), (.int .u8 0), (.int .u8 0), (.int .u8 0), (.int .u8 0), (.int .u8 0), (.int .u8 0), (.int .u8 0), (.int .u8 0), (.int .u8 0), (.int .u8 0), (.int .u8 0), (.int .u8 0), (.int .u8 0), (.int .u8 0), (.int .u8 0), (.int .u8 0), (.int .u8 0), (.int .u8 0), (.int .u8 0), (.int .u8 0)]) fun v4 => asPtr v4 fun p5 => asSome p5 fun a6 => .join (bif (decide (i0 < 0)) then (.ret .normal [(.int .u64 (wu64 (0 - (wu64 i0))))]) else (.ret .normal [(.int .u64 (wu64 i0))])) (T69k0 a6 i0))) else (.call 87 [(.slice none 0 0), (.int .u64 (wu64 i0)), (.int .i64 i1), (.bool (decide (i0 < 0))), (.bool false)] fun v22 => asTuple v22 fun l23 => asCons l23 fun v24 l25 => asSlice v24 fun p26 n27 n28 => asCons l25 fun v29 l30 => asStr v29 fun s31 => asNil l30 (.ret .ret [(.string s31)]))
theorem T69_eq (i0 : Int) (i1 : Int) : progOf PROG false 69 [(.int .i64 i0), (.int .i64 i1)] = T69 i0 i1 := by kernel_rfl


/-- internal/strconv.small -/
noncomputable def T84 (i0 : Int) : Pg :=
  bif (decide (i0 < 10)) then (grd (((decide (0 ≤ i0)) && (decide (i0 ≤ (wi64 (i0 + 1))))) && (decide ((wi64 (i0 + 1)) ≤ 36))) (.ret .ret [(.string ((bs [48, 49, 50, 51, 52, 53, 54, 55, 56, 57, 97, 98, 99, 100, 101, 102, 103, 104, 105, 106, 107, 108, 109, 110, 111, 112, 113, 114, 115, 116, 117, 118, 119, 120, 121, 122]).extract (Int.toNat i0) (Int.toNat (wi64 (i0 + 1)))))])) else (grd (((decide (0 ≤ (wi64 (i0 * 2)))) && (decide ((wi64 (i0 * 2)) ≤ (wi64 ((wi64 (i0 * 2)) + 2))))) && (decide ((wi64 ((wi64 (i0 * 2)) + 2)) ≤ 200))) (.ret .ret [(.string ((bs [48, 48, 48, 49, 48, 50, 48, 51, 48, 52, 48, 53, 48, 54, 48, 55, 48, 56, 48, 57, 49, 48, 49, 49, 49, 50, 49, 51, 49, 52, 49, 53, 49, 54, 49, 55, 49, 56, 49, 57, 50, 48, 50, 49, 50, 50, 50, 51, 50, 52, 50, 53, 50, 54, 50, 55, 50, 56, 50, 57, 51, 48, 51, 49, 51, 50, 51, 51, 51, 52, 51, 53, 51, 54, 51, 55, 51, 56, 51, 57, 52, 48, 52, 49, 52, 50, 52, 51, 52, 52, 52, 53, 52, 54, 52, 55, 52, 56, 52, 57, 53, 48, 53, 49, 53, 50, 53, 51, 53, 52, 53, 53, 53, 54, 53, 55, 53, 56, 53, 57, 54, 48, 54, 49, 54, 50, 54, 51, 54, 52, 54, 53, 54, 54, 54, 55, 54, 56, 54, 57, 55, 48, 55, 49, 55, 50, 55, 51, 55, 52, 55, 53, 55, 54, 55, 55, 55, 56, 55, 57, 56, 48, 56, 49, 56, 50, 56, 51, 56, 52, 56, 53, 56, 54, 56, 55, 56, 56, 56, 57, 57, 48, 57, 49, 57, 50, 57, 51, 57, 52, 57, 53, 57, 54, 57, 55, 57, 56, 57, 57]).extract (Int.toNat (wi64 (i0 * 2))) (Int.toNat (wi64 ((wi64 (i0 * 2)) + 2)))))]))
theorem T84_eq (i0 : Int) : progOf PROG false 84 [(.int .i64 i0)] = T84 i0 := by kernel_rfl


/-- internal/strconv.numDigits -/
noncomputable def T85 (i0 : Int) : Pg :=
  .call 94 [(.int .u64 i0)] fun v1 => asInt .i64 v1 fun i2 => .call 93 [(.int .i64 i2)] fun v3 => asInt .i64 v3 fun i4 => grd ((decide (0 ≤ i4)) && (decide (i4 < 20))) (.act (ld1 (aadd ⟨5, 0, none⟩ ((Int.toNat i4) * 1))) fun v5 => asInt .u64 v5 fun i6 => .call 95 [(.bool (decide (i0 ≥ i6)))] fun v7 => asInt .i64 v7 fun i8 => .ret .ret [(.int .i64 (wi64 (i4 + i8)))])
theorem T85_eq (i0 : Int) : progOf PROG false 85 [(.int .u64 i0)] = T85 i0 := by kernel_rfl


noncomputable def T86k0 : Ex → List Value → Pg :=
  fun e35 l36 => sw e35 .normal (asCons l36 fun v37 l38 => asInt .i64 v37 fun i39 => asCons l38 fun v40 l41 => asInt .u64 v40 fun i42 => asNil l41 (.ret .normal [(.int .i64 i39), (.int .u64 i42)])) (.fail)

noncomputable def T86b0 (p0 : (Option Addr)) (n1 : Nat) : List Value → Pg :=
  fun l4 => asCons l4 fun v5 l6 => asInt .i64 v5 fun i7 => asCons l6 fun v8 l9 => asInt .u64 v8 fun i10 => asNil l9 (bif (decide (i7 ≥ 8)) then (.join (grd ((decide (0 ≤ (wu32 ((wu32 ((Int.tmod (Int.tmod (wu32 (Int.tmod i10 100000000)) 10000) 100) * 2)) + 1)))) && (decide ((wu32 ((wu32 ((Int.tmod (Int.tmod (wu32 (Int.tmod i10 100000000)) 10000) 100) * 2)) + 1)) < 200))) (grd ((decide (0 ≤ (wu32 ((Int.tmod (Int.tmod (wu32 (Int.tmod i10 100000000)) 10000) 100) * 2)))) && (decide ((wu32 ((Int.tmod (Int.tmod (wu32 (Int.tmod i10 100000000)) 10000) 100) * 2)) < 200))) (asSome p0 fun a11 => grd ((decide (0 ≤ (wi64 (i7 - 1)))) && (decide ((wi64 (i7 - 1)) < ((n1 : Nat) : Int)))) (.act (stC (aadd a11 ((Int.toNat (wi64 (i7 - 1))) * 1)) [(.int .u8 (byteAt (bs [48, 48, 48, 49, 48, 50, 48, 51, 48, 52, 48, 53, 48, 54, 48, 55, 48, 56, 48, 57, 49, 48, 49, 49, 49, 50, 49, 51, 49, 52, 49, 53, 49, 54, 49, 55, 49, 56, 49, 57, 50, 48, 50, 49, 50, 50, 50, 51, 50, 52, 50, 53, 50, 54, 50, 55, 50, 56, 50, 57, 51, 48, 51, 49, 51, 50, 51, 51, 51, 52, 51, 53, 51, 54, 51, 55, 51, 56, 51, 57, 52, 48, 52, 49, 52, 50, 52, 51, 52, 52, 52, 53, 52, 54, 52, 55, 52, 56, 52, 57, 53, 48, 53, 49, 53, 50, 53, 51, 53, 52, 53, 53, 53, 54, 53, 55, 53, 56, 53, 57, 54, 48, 54, 49, 54, 50, 54, 51, 54, 52, 54, 53, 54, 54, 54, 55, 54, 56, 54, 57, 55, 48, 55, 49, 55, 50, 55, 51, 55, 52, 55, 53, 55, 54, 55, 55, 55, 56, 55, 57, 56, 48, 56, 49, 56, 50, 56, 51, 56, 52, 56, 53, 56, 54, 56, 55, 56, 56, 56, 57, 57, 48, 57, 49, 57, 50, 57, 51, 57, 52, 57, 53, 57, 54, 57, 55, 57, 56, 57, 57]) (Int.toNat (wu32 ((wu32 ((Int.tmod (Int.tmod (wu32 (Int.tmod i10 100000000)) 10000) 100) * 2)) + 1)))))]) fun v12 => asTuple v12 fun l13 => asNil l13 (asSome p0 fun a14 => grd ((decide (0 ≤ (wi64 (i7 - 2)))) && (decide ((wi64 (i7 - 2)) < ((n1 : Nat) : Int)))) (.act (stC (aadd a14 ((Int.toNat (wi64 (i7 - 2))) * 1)) [(.int .u8 (byteAt (bs [48, 48, 48, 49, 48, 50, 48, 51, 48, 52, 48, 53, 48, 54, 48, 55, 48, 56, 48, 57, 49, 48, 49, 49, 49, 50, 49, 51, 49, 52, 49, 53, 49, 54, 49, 55, 49, 56, 49, 57, 50, 48, 50, 49, 50, 50, 50, 51, 50, 52, 50, 53, 50, 54, 50, 55, 50, 56, 50, 57, 51, 48, 51, 49, 51, 50, 51, 51, 51, 52, 51, 53, 51, 54, 51, 55, 51, 56, 51, 57, 52, 48, 52, 49, 52, 50, 52, 51, 52, 52, 52, 53, 52, 54, 52, 55, 52, 56, 52, 57, 53, 48, 53, 49, 53, 50, 53, 51, 53, 52, 53, 53, 53, 54, 53, 55, 53, 56, 53, 57, 54, 48, 54, 49, 54, 50, 54, 51, 54, 52, 54, 53, 54, 54, 54, 55, 54, 56, 54, 57, 55, 48, 55, 49, 55, 50, 55, 51, 55, 52, 55, 53, 55, 54, 55, 55, 55, 56, 55, 57, 56, 48, 56, 49, 56, 50, 56, 51, 56, 52, 56, 53, 56, 54, 56, 55, 56, 56, 56, 57, 57, 48, 57, 49, 57, 50, 57, 51, 57, 52, 57, 53, 57, 54, 57, 55, 57, 56, 57, 57]) (Int.toNat (wu32 ((Int.tmod (Int.tmod (wu32 (Int.tmod i10 100000000)) 10000) 100) * 2)))))]) fun v15 => asTuple v15 fun l16 => asNil l16 (grd ((decide (0 ≤ (wu32 ((wu32 ((wu32 (Int.tdiv (Int.tmod (wu32 (Int.tmod i10 100000000)) 10000) 100)) * 2)) + 1)))) && (decide ((wu32 ((wu32 ((wu32 (Int.tdiv (Int.tmod (wu32 (Int.tmod i10 100000000)) 10000) 100)) * 2)) + 1)) < 200))) (grd ((decide (0 ≤ (wu32 ((wu32 (Int.tdiv (Int.tmod (wu32 (Int.tmod i10 100000000)) 10000) 100)) * 2)))) && (decide ((wu32 ((wu32 (Int.tdiv (Int.tmod (wu32 (Int.tmod i10 100000000)) 10000) 100)) * 2)) < 200))) (asSome p0 fun a17 => grd ((decide (0 ≤ (wi64 (i7 - 3)))) && (decide ((wi64 (i7 - 3)) < ((n1 : Nat) : Int)))) (.act (stC (aadd a17 ((Int.toNat (wi64 (i7 - 3))) * 1)) [(.int .u8 (byteAt (bs [48, 48, 48, 49, 48, 50, 48, 51, 48, 52, 48, 53, 48, 54, 48, 55, 48, 56, 48, 57, 49, 48, 49, 49, 49, 50, 49, 51, 49, 52, 49, 53, 49, 54, 49, 55, 49, 56, 49, 57, 50, 48, 50, 49, 50, 50, 50, 51, 50, 52, 50, 53, 50, 54, 50, 55, 50, 56, 50, 57, 51, 48, 51, 49, 51, 50, 51, 51, 51, 52, 51, 53, 51, 54, 51, 55, 51, 56, 51, 57, 52, 48, 52, 49, 52, 50, 52, 51, 52, 52, 52, 53, 52, 54, 52, 55, 52, 56, 52, 57, 53, 48, 53, 49, 53, 50, 53, 51, 53, 52, 53, 53, 53, 54, 53, 55, 53, 56, 53, 57, 54, 48, 54, 49, 54, 50, 54, 51, 54, 52, 54, 53, 54, 54, 54, 55, 54, 56, 54, 57, 55, 48, 55, 49, 55, 50, 55, 51, 55, 52, 55, 53, 55, 54, 55, 55, 55, 56, 55, 57, 56, 48, 56, 49, 56, 50, 56, 51, 56, 52, 56, 53, 56, 54, 56, 55, 56, 56, 56, 57, 57, 48, 57, 49, 57, 50, 57, 51, 57, 52, 57, 53, 57, 54, 57, 55, 57, 56, 57, 57]) (Int.toNat (wu32 ((wu32 ((wu32 (Int.tdiv (Int.tmod (wu32 (Int.tmod i10 100000000)) 10000) 100)) * 2)) + 1)))))]) fun v18 => asTuple v18 fun l19 => asNil l19 (asSome p0 fun a20 => grd ((decide (0 ≤ (wi64 (i7 - 4)))) && (decide ((wi64 (i7 - 4)) < ((n1 : Nat) : Int)))) (.act (stC (aadd a20 ((Int.toNat (wi64 (i7 - 4))) * 1)) [(.int .u8 (byteAt (bs [48, 48, 48, 49, 48, 50, 48, 51, 48, 52, 48, 53, 48, 54, 48, 55, 48, 56, 48, 57, 49, 48, 49, 49, 49, 50, 49, 51, 49, 52, 49, 53, 49, 54, 49, 55, 49, 56, 49, 57, 50, 48, 50, 49, 50, 50, 50, 51, 50, 52, 50, 53, 50, 54, 50, 55, 50, 56, 50, 57, 51, 48, 51, 49, 51, 50, 51, 51, 51, 52, 51, 53, 51, 54, 51, 55, 51, 56, 51, 57, 52, 48, 52, 49, 52, 50, 52, 51, 52, 52, 52, 53, 52, 54, 52, 55, 52, 56, 52, 57, 53, 48, 53, 49, 53, 50, 53, 51, 53, 52, 53, 53, 53, 54, 53, 55, 53, 56, 53, 57, 54, 48, 54, 49, 54, 50, 54, 51, 54, 52, 54, 53, 54, 54, 54, 55, 54, 56, 54, 57, 55, 48, 55, 49, 55, 50, 55, 51, 55, 52, 55, 53, 55, 54, 55, 55, 55, 56, 55, 57, 56, 48, 56, 49, 56, 50, 56, 51, 56, 52, 56, 53, 56, 54, 56, 55, 56, 56, 56, 57, 57, 48, 57, 49, 57, 50, 57, 51, 57, 52, 57, 53, 57, 54, 57, 55, 57, 56, 57, 57]) (Int.toNat (wu32 ((wu32 (Int.tdiv (Int.tmod (wu32 (Int.tmod i10 100000000)) 10000) 100)) * 2)))))]) fun v21 => asTuple v21 fun l22 => asNil l22 (grd ((decide (0 ≤ (wu32 ((wu32 ((Int.tmod (wu32 (Int.tdiv (wu32 (Int.tmod i10 100000000)) 10000)) 100) * 2)) + 1)))) && (decide ((wu32 ((wu32 ((Int.tmod (wu32 (Int.tdiv (wu32 (Int.tmod i10 100000000)) 10000)) 100) * 2)) + 1)) < 200))) (grd ((decide (0 ≤ (wu32 ((Int.tmod (wu32 (Int.tdiv (wu32 (Int.tmod i10 100000000)) 10000)) 100) * 2)))) && (decide ((wu32 ((Int.tmod (wu32 (Int.tdiv (wu32 (Int.tmod i10 100000000)) 10000)) 100) * 2)) < 200))) (asSome p0 fun a23 => grd ((decide (0 ≤ (wi64 (i7 - 5)))) && (decide ((wi64 (i7 - 5)) < ((n1 : Nat) : Int)))) (.act (stC (aadd a23 ((Int.toNat (wi64 (i7 - 5))) * 1)) [(.int .u8 (byteAt (bs [48, 48, 48, 49, 48, 50, 48, 51, 48, 52, 48, 53, 48, 54, 48, 55, 48, 56, 48, 57, 49, 48, 49, 49, 49, 50, 49, 51, 49, 52, 49, 53, 49, 54, 49, 55, 49, 56, 49, 57, 50, 48, 50, 49, 50, 50, 50, 51, 50, 52, 50, 53, 50, 54, 50, 55, 50, 56, 50, 57, 51, 48, 51, 49, 51, 50, 51, 51, 51, 52, 51, 53, 51, 54, 51, 55, 51, 56, 51, 57, 52, 48, 52, 49, 52, 50, 52, 51, 52, 52, 52, 53, 52, 54, 52, 55, 52, 56, 52, 57, 53, 48, 53, 49, 53, 50, 53, 51, 53, 52, 53, 53, 53, 54, 53, 55, 53, 56, 53, 57, 54, 48, 54, 49, 54, 50, 54, 51, 54, 52, 54, 53, 54, 54, 54, 55, 54, 56, 54, 57, 55, 48, 55, 49, 55, 50, 55, 51, 55, 52, 55, 53, 55, 54, 55, 55, 55, 56, 55, 57, 56, 48, 56, 49, 56, 50, 56, 51, 56, 52, 56, 53, 56, 54, 56, 55, 56, 56, 56, 57, 57, 48, 57, 49, 57, 50, 57, 51, 57, 52, 57, 53, 57, 54, 57, 55, 57, 56, 57, 57]) (Int.toNat (wu32 ((wu32 ((Int.tmod (wu32 (Int.tdiv (wu32 (Int.tmod i10 100000000)) 10000)) 100) * 2)) + 1)))))]) fun v24 => asTuple v24 fun l25 => asNil l25 (asSome p0 fun a26 => grd ((decide (0 ≤ (wi64 (i7 - 6)))) && (decide ((wi64 (i7 - 6)) < ((n1 : Nat) : Int)))) (.act (stC (aadd a26 ((Int.toNat (wi64 (i7 - 6))) * 1)) [(.int .u8 (byteAt (bs [48, 48, 48, 49, 48, 50, 48, 51, 48, 52, 48, 53, 48, 54, 48, 55, 48, 56, 48, 57, 49, 48, 49, 49, 49, 50, 49, 51, 49, 52, 49, 53, 49, 54, 49, 55, 49, 56, 49, 57, 50, 48, 50, 49, 50, 50, 50, 51, 50, 52, 50, 53, 50, 54, 50, 55, 50, 56, 50, 57, 51, 48, 51, 49, 51, 50, 51, 51, 51, 52, 51, 53, 51, 54, 51, 55, 51, 56, 51, 57, 52, 48, 52, 49, 52, 50, 52, 51, 52, 52, 52, 53, 52, 54, 52, 55, 52, 56, 52, 57, 53, 48, 53, 49, 53, 50, 53, 51, 53, 52, 53, 53, 53, 54, 53, 55, 53, 56, 53, 57, 54, 48, 54, 49, 54, 50, 54, 51, 54, 52, 54, 53, 54, 54, 54, 55, 54, 56, 54, 57, 55, 48, 55, 49, 55, 50, 55, 51, 55, 52, 55, 53, 55, 54, 55, 55, 55, 56, 55, 57, 56, 48, 56, 49, 56, 50, 56, 51, 56, 52, 56, 53, 56, 54, 56, 55, 56, 56, 56, 57, 57, 48, 57, 49, 57, 50, 57, 51, 57, 52, 57, 53, 57, 54, 57, 55, 57, 56, 57, 57]) (Int.toNat (wu32 ((Int.tmod (wu32 (Int.tdiv (wu32 (Int.tmod i10 100000000)) 10000)) 100) * 2)))))]) fun v27 => asTuple v27 fun l28 => asNil l28 (grd ((decide (0 ≤ (wu32 ((wu32 ((wu32 (Int.tdiv (wu32 (Int.tdiv (wu32 (Int.tmod i10 100000000)) 10000)) 100)) * 2)) + 1)))) && (decide ((wu32 ((wu32 ((wu32 (Int.tdiv (wu32 (Int.tdiv (wu32 (Int.tmod i10 100000000)) 10000)) 100)) * 2)) + 1)) < 200))) (grd ((decide (0 ≤ (wu32 ((wu32 (Int.tdiv (wu32 (Int.tdiv (wu32 (Int.tmod i10 100000000)) 10000)) 100)) * 2)))) && (decide ((wu32 ((wu32 (Int.tdiv (wu32 (Int.tdiv (wu32 (Int.tmod i10 100000000)) 10000)) 100)) * 2)) < 200))) (asSome p0 fun a29 => grd ((decide (0 ≤ (wi64 (i7 - 7)))) && (decide ((wi64 (i7 - 7)) < ((n1 : Nat) : Int)))) (.act (stC (aadd a29 ((Int.toNat (wi64 (i7 - 7))) * 1)) [(.int .u8 (byteAt (bs [48, 48, 48, 49, 48, 50, 48, 51, 48, 52, 48, 53, 48, 54, 48, 55, 48, 56, 48, 57, 49, 48, 49, 49, 49, 50, 49, 51, 49, 52, 49, 53, 49, 54, 49, 55, 49, 56, 49, 57, 50, 48, 50, 49, 50, 50, 50, 51, 50, 52, 50, 53, 50, 54, 50, 55, 50, 56, 50, 57, 51, 48, 51, 49, 51, 50, 51, 51, 51, 52, 51, 53, 51, 54, 51, 55, 51, 56, 51, 57, 52, 48, 52, 49, 52, 50, 52, 51, 52, 52, 52, 53, 52, 54, 52, 55, 52, 56, 52, 57, 53, 48, 53, 49, 53, 50, 53, 51, 53, 52, 53, 53, 53, 54, 53, 55, 53, 56, 53, 57, 54, 48, 54, 49, 54, 50, 54, 51, 54, 52, 54, 53, 54, 54, 54, 55, 54, 56, 54, 57, 55, 48, 55, 49, 55, 50, 55, 51, 55, 52, 55, 53, 55, 54, 55, 55, 55, 56, 55, 57, 56, 48, 56, 49, 56, 50, 56, 51, 56, 52, 56, 53, 56, 54, 56, 55, 56, 56, 56, 57, 57, 48, 57, 49, 57, 50, 57, 51, 57, 52, 57, 53, 57, 54, 57, 55, 57, 56, 57, 57]) (Int.toNat (wu32 ((wu32 ((wu32 (Int.tdiv (wu32 (Int.tdiv (wu32 (Int.tmod i10 100000000)) 10000)) 100)) * 2)) + 1)))))]) fun v30 => asTuple v30 fun l31 => asNil l31 (asSome p0 fun a32 => grd ((decide (0 ≤ (wi64 (i7 - 8)))) && (decide ((wi64 (i7 - 8)) < ((n1 : Nat) : Int)))) (.act (stC (aadd a32 ((Int.toNat (wi64 (i7 - 8))) * 1)) [(.int .u8 (byteAt (bs [48, 48, 48, 49, 48, 50, 48, 51, 48, 52, 48, 53, 48, 54, 48, 55, 48, 56, 48, 57, 49, 48, 49, 49, 49, 50, 49, 51, 49, 52, 49, 53, 49, 54, 49, 55, 49, 56, 49, 57, 50, 48, 50, 49, 50, 50, 50, 51, 50, 52, 50, 53, 50, 54, 50, 55, 50, 56, 50, 57, 51, 48, 51, 49, 51, 50, 51, 51, 51, 52, 51, 53, 51, 54, 51, 55, 51, 56, 51, 57, 52, 48, 52, 49, 52, 50, 52, 51, 52, 52, 52, 53, 52, 54, 52, 55, 52, 56, 52, 57, 53, 48, 53, 49, 53, 50, 53, 51, 53, 52, 53, 53, 53, 54, 53, 55, 53, 56, 53, 57, 54, 48, 54, 49, 54, 50, 54, 51, 54, 52, 54, 53, 54, 54, 54, 55, 54, 56, 54, 57, 55, 48, 55, 49, 55, 50, 55, 51, 55, 52, 55, 53, 55, 54, 55, 55, 55, 56, 55, 57, 56, 48, 56, 49, 56, 50, 56, 51, 56, 52, 56, 53, 56, 54, 56, 55, 56, 56, 56, 57, 57, 48, 57, 49, 57, 50, 57, 51, 57, 52, 57, 53, 57, 54, 57, 55, 57, 56, 57, 57]) (Int.toNat (wu32 ((wu32 (Int.tdiv (wu32 (Int.tdiv (wu32 (Int.tmod i10 100000000)) 10000)) 100)) * 2)))))]) fun v33 => asTuple v33 fun l34 => asNil l34 (.ret .normal [(.int .i64 (wi64 (i7 - 8))), (.int .u64 (wu64 (Int.tdiv i10 100000000)))]))))))))))))))))))))))))) (T86k0)) else (.ret (.exit 0) [(.int .i64 i7), (.int .u64 i10)]))

noncomputable def T86k1 : Ex → List Value → Pg :=
  fun e88 l89 => sw e88 .normal (asNil l89 (.ret .ret [(.tuple #[])])) (.fail)

noncomputable def T86k2 (p0 : (Option Addr)) (n1 : Nat) : Ex → List Value → Pg :=
  fun e77 l78 => sw e77 .normal (asCons l78 fun v79 l80 => asInt .i64 v79 fun i81 => asCons l80 fun v82 l83 => asInt .u32 v82 fun i84 => asNil l83 (.join (bif (decide (i81 > 0)) then (asSome p0 fun a85 => grd (decide (0 < ((n1 : Nat) : Int))) (.act (stC (aadd a85 0) [(.int .u8 (wu8 (wu32 (48 + i84))))]) fun v86 => asTuple v86 fun l87 => asNil l87 (.ret .normal []))) else (.ret .normal [])) (T86k1))) (.fail)

noncomputable def T86k3 (p0 : (Option Addr)) (n1 : Nat) : Ex → List Value → Pg :=
  fun e63 l64 => sw e63 .normal (asCons l64 fun v65 l66 => asInt .i64 v65 fun i67 => asCons l66 fun v68 l69 => asInt .u32 v68 fun i70 => asNil l69 (.join (bif (decide (i67 ≥ 2)) then (grd ((decide (0 ≤ (wu32 ((wu32 ((Int.tmod i70 100) * 2)) + 1)))) && (decide ((wu32 ((wu32 ((Int.tmod i70 100) * 2)) + 1)) < 200))) (grd ((decide (0 ≤ (wu32 ((Int.tmod i70 100) * 2)))) && (decide ((wu32 ((Int.tmod i70 100) * 2)) < 200))) (asSome p0 fun a71 => grd ((decide (0 ≤ (wi64 (i67 - 1)))) && (decide ((wi64 (i67 - 1)) < ((n1 : Nat) : Int)))) (.act (stC (aadd a71 ((Int.toNat (wi64 (i67 - 1))) * 1)) [(.int .u8 (byteAt (bs [48, 48, 48, 49, 48, 50, 48, 51, 48, 52, 48, 53, 48, 54, 48, 55, 48, 56, 48, 57, 49, 48, 49, 49, 49, 50, 49, 51, 49, 52, 49, 53, 49, 54, 49, 55, 49, 56, 49, 57, 50, 48, 50, 49, 50, 50, 50, 51, 50, 52, 50, 53, 50, 54, 50, 55, 50, 56, 50, 57, 51, 48, 51, 49, 51, 50, 51, 51, 51, 52, 51, 53, 51, 54, 51, 55, 51, 56, 51, 57, 52, 48, 52, 49, 52, 50, 52, 51, 52, 52, 52, 53, 52, 54, 52, 55, 52, 56, 52, 57, 53, 48, 53, 49, 53, 50, 53, 51, 53, 52, 53, 53, 53, 54, 53, 55, 53, 56, 53, 57, 54, 48, 54, 49, 54, 50, 54, 51, 54, 52, 54, 53, 54, 54, 54, 55, 54, 56, 54, 57, 55, 48, 55, 49, 55, 50, 55, 51, 55, 52, 55, 53, 55, 54, 55, 55, 55, 56, 55, 57, 56, 48, 56, 49, 56, 50, 56, 51, 56, 52, 56, 53, 56, 54, 56, 55, 56, 56, 56, 57, 57, 48, 57, 49, 57, 50, 57, 51, 57, 52, 57, 53, 57, 54, 57, 55, 57, 56, 57, 57]) (Int.toNat (wu32 ((wu32 ((Int.tmod i70 100) * 2)) + 1)))))]) fun v72 => asTuple v72 fun l73 => asNil l73 (asSome p0 fun a74 => grd ((decide (0 ≤ (wi64 (i67 - 2)))) && (decide ((wi64 (i67 - 2)) < ((n1 : Nat) : Int)))) (.act (stC (aadd a74 ((Int.toNat (wi64 (i67 - 2))) * 1)) [(.int .u8 (byteAt (bs [48, 48, 48, 49, 48, 50, 48, 51, 48, 52, 48, 53, 48, 54, 48, 55, 48, 56, 48, 57, 49, 48, 49, 49, 49, 50, 49, 51, 49, 52, 49, 53, 49, 54, 49, 55, 49, 56, 49, 57, 50, 48, 50, 49, 50, 50, 50, 51, 50, 52, 50, 53, 50, 54, 50, 55, 50, 56, 50, 57, 51, 48, 51, 49, 51, 50, 51, 51, 51, 52, 51, 53, 51, 54, 51, 55, 51, 56, 51, 57, 52, 48, 52, 49, 52, 50, 52, 51, 52, 52, 52, 53, 52, 54, 52, 55, 52, 56, 52, 57, 53, 48, 53, 49, 53, 50, 53, 51, 53, 52, 53, 53, 53, 54, 53, 55, 53, 56, 53, 57, 54, 48, 54, 49, 54, 50, 54, 51, 54, 52, 54, 53, 54, 54, 54, 55, 54, 56, 54, 57, 55, 48, 55, 49, 55, 50, 55, 51, 55, 52, 55, 53, 55, 54, 55, 55, 55, 56, 55, 57, 56, 48, 56, 49, 56, 50, 56, 51, 56, 52, 56, 53, 56, 54, 56, 55, 56, 56, 56, 57, 57, 48, 57, 49, 57, 50, 57, 51, 57, 52, 57, 53, 57, 54, 57, 55, 57, 56, 57, 57]) (Int.toNat (wu32 ((Int.tmod i70 100) * 2)))))]) fun v75 => asTuple v75 fun l76 => asNil l76 (.ret .normal [(.int .i64 (wi64 (i67 - 2))), (.int .u32 (wu32 (Int.tdiv i70 100)))]))))))) else (.ret .normal [(.int .i64 i67), (.int .u32 i70)])) (T86k2 p0 n1))) (.fail)

noncomputable def T86k4 (p0 : (Option Addr)) (n1 : Nat) : Ex → List Value → Pg :=
  fun e43 l44 => sw e43 (.exit 0) (asCons l44 fun v45 l46 => asInt .i64 v45 fun i47 => asCons l46 fun v48 l49 => asInt .u64 v48 fun i50 => asNil l49 (.join (bif (decide (i47 ≥ 4)) then (grd ((decide (0 ≤ (wu32 ((wu32 ((Int.tmod (Int.tmod (wu32 i50) 10000) 100) * 2)) + 1)))) && (decide ((wu32 ((wu32 ((Int.tmod (Int.tmod (wu32 i50) 10000) 100) * 2)) + 1)) < 200))) (grd ((decide (0 ≤ (wu32 ((Int.tmod (Int.tmod (wu32 i50) 10000) 100) * 2)))) && (decide ((wu32 ((Int.tmod (Int.tmod (wu32 i50) 10000) 100) * 2)) < 200))) (asSome p0 fun a51 => grd ((decide (0 ≤ (wi64 (i47 - 1)))) && (decide ((wi64 (i47 - 1)) < ((n1 : Nat) : Int)))) (.act (stC (aadd a51 ((Int.toNat (wi64 (i47 - 1))) * 1)) [(.int .u8 (byteAt (bs [48, 48, 48, 49, 48, 50, 48, 51, 48, 52, 48, 53, 48, 54, 48, 55, 48, 56, 48, 57, 49, 48, 49, 49, 49, 50, 49, 51, 49, 52, 49, 53, 49, 54, 49, 55, 49, 56, 49, 57, 50, 48, 50, 49, 50, 50, 50, 51, 50, 52, 50, 53, 50, 54, 50, 55, 50, 56, 50, 57, 51, 48, 51, 49, 51, 50, 51, 51, 51, 52, 51, 53, 51, 54, 51, 55, 51, 56, 51, 57, 52, 48, 52, 49, 52, 50, 52, 51, 52, 52, 52, 53, 52, 54, 52, 55, 52, 56, 52, 57, 53, 48, 53, 49, 53, 50, 53, 51, 53, 52, 53, 53, 53, 54, 53, 55, 53, 56, 53, 57, 54, 48, 54, 49, 54, 50, 54, 51, 54, 52, 54, 53, 54, 54, 54, 55, 54, 56, 54, 57, 55, 48, 55, 49, 55, 50, 55, 51, 55, 52, 55, 53, 55, 54, 55, 55, 55, 56, 55, 57, 56, 48, 56, 49, 56, 50, 56, 51, 56, 52, 56, 53, 56, 54, 56, 55, 56, 56, 56, 57, 57, 48, 57, 49, 57, 50, 57, 51, 57, 52, 57, 53, 57, 54, 57, 55, 57, 56, 57, 57]) (Int.toNat (wu32 ((wu32 ((Int.tmod (Int.tmod (wu32 i50) 10000) 100) * 2)) + 1)))))]) fun v52 => asTuple v52 fun l53 => asNil l53 (asSome p0 fun a54 => grd ((decide (0 ≤ (wi64 (i47 - 2)))) && (decide ((wi64 (i47 - 2)) < ((n1 : Nat) : Int)))) (.act (stC (aadd a54 ((Int.toNat (wi64 (i47 - 2))) * 1)) [(.int .u8 (byteAt (bs [48, 48, 48, 49, 48, 50, 48, 51, 48, 52, 48, 53, 48, 54, 48, 55, 48, 56, 48, 57, 49, 48, 49, 49, 49, 50, 49, 51, 49, 52, 49, 53, 49, 54, 49, 55, 49, 56, 49, 57, 50, 48, 50, 49, 50, 50, 50, 51, 50, 52, 50, 53, 50, 54, 50, 55, 50, 56, 50, 57, 51, 48, 51, 49, 51, 50, 51, 51, 51, 52, 51, 53, 51, 54, 51, 55, 51, 56, 51, 57, 52, 48, 52, 49, 52, 50, 52, 51, 52, 52, 52, 53, 52, 54, 52, 55, 52, 56, 52, 57, 53, 48, 53, 49, 53, 50, 53, 51, 53, 52, 53, 53, 53, 54, 53, 55, 53, 56, 53, 57, 54, 48, 54, 49, 54, 50, 54, 51, 54, 52, 54, 53, 54, 54, 54, 55, 54, 56, 54, 57, 55, 48, 55, 49, 55, 50, 55, 51, 55, 52, 55, 53, 55, 54, 55, 55, 55, 56, 55, 57, 56, 48, 56, 49, 56, 50, 56, 51, 56, 52, 56, 53, 56, 54, 56, 55, 56, 56, 56, 57, 57, 48, 57, 49, 57, 50, 57, 51, 57, 52, 57, 53, 57, 54, 57, 55, 57, 56, 57, 57]) (Int.toNat (wu32 ((Int.tmod (Int.tmod (wu32 i50) 10000) 100) * 2)))))]) fun v55 => asTuple v55 fun l56 => asNil l56 (grd ((decide (0 ≤ (wu32 ((wu32 ((wu32 (Int.tdiv (Int.tmod (wu32 i50) 10000) 100)) * 2)) + 1)))) && (decide ((wu32 ((wu32 ((wu32 (Int.tdiv (Int.tmod (wu32 i50) 10000) 100)) * 2)) + 1)) < 200))) (grd ((decide (0 ≤ (wu32 ((wu32 (Int.tdiv (Int.tmod (wu32 i50) 10000) 100)) * 2)))) && (decide ((wu32 ((wu32 (Int.tdiv (Int.tmod (wu32 i50) 10000) 100)) * 2)) < 200))) (asSome p0 fun a57 => grd ((decide (0 ≤ (wi64 (i47 - 3)))) && (decide ((wi64 (i47 - 3)) < ((n1 : Nat) : Int)))) (.act (stC (aadd a57 ((Int.toNat (wi64 (i47 - 3))) * 1)) [(.int .u8 (byteAt (bs [48, 48, 48, 49, 48, 50, 48, 51, 48, 52, 48, 53, 48, 54, 48, 55, 48, 56, 48, 57, 49, 48, 49, 49, 49, 50, 49, 51, 49, 52, 49, 53, 49, 54, 49, 55, 49, 56, 49, 57, 50, 48, 50, 49, 50, 50, 50, 51, 50, 52, 50, 53, 50, 54, 50, 55, 50, 56, 50, 57, 51, 48, 51, 49, 51, 50, 51, 51, 51, 52, 51, 53, 51, 54, 51, 55, 51, 56, 51, 57, 52, 48, 52, 49, 52, 50, 52, 51, 52, 52, 52, 53, 52, 54, 52, 55, 52, 56, 52, 57, 53, 48, 53, 49, 53, 50, 53, 51, 53, 52, 53, 53, 53, 54, 53, 55, 53, 56, 53, 57, 54, 48, 54, 49, 54, 50, 54, 51, 54, 52, 54, 53, 54, 54, 54, 55, 54, 56, 54, 57, 55, 48, 55, 49, 55, 50, 55, 51, 55, 52, 55, 53, 55, 54, 55, 55, 55, 56, 55, 57, 56, 48, 56, 49, 56, 50, 56, 51, 56, 52, 56, 53, 56, 54, 56, 55, 56, 56, 56, 57, 57, 48, 57, 49, 57, 50, 57, 51, 57, 52, 57, 53, 57, 54, 57, 55, 57, 56, 57, 57]) (Int.toNat (wu32 ((wu32 ((wu32 (Int.tdiv (Int.tmod (wu32 i50) 10000) 100)) * 2)) + 1)))))]) fun v58 => asTuple v58 fun l59 => asNil l59 (asSome p0 fun a60 => grd ((decide (0 ≤ (wi64 (i47 - 4)))) && (decide ((wi64 (i47 - 4)) < ((n1 : Nat) : Int)))) (.act (stC (aadd a60 ((Int.toNat (wi64 (i47 - 4))) * 1)) [(.int .u8 (byteAt (bs [48, 48, 48, 49, 48, 50, 48, 51, 48, 52, 48, 53, 48, 54, 48, 55, 48, 56, 48, 57, 49, 48, 49, 49, 49, 50, 49, 51, 49, 52, 49, 53, 49, 54, 49, 55, 49, 56, 49, 57, 50, 48, 50, 49, 50, 50, 50, 51, 50, 52, 50, 53, 50, 54, 50, 55, 50, 56, 50, 57, 51, 48, 51, 49, 51, 50, 51, 51, 51, 52, 51, 53, 51, 54, 51, 55, 51, 56, 51, 57, 52, 48, 52, 49, 52, 50, 52, 51, 52, 52, 52, 53, 52, 54, 52, 55, 52, 56, 52, 57, 53, 48, 53, 49, 53, 50, 53, 51, 53, 52, 53, 53, 53, 54, 53, 55, 53, 56, 53, 57, 54, 48, 54, 49, 54, 50, 54, 51, 54, 52, 54, 53, 54, 54, 54, 55, 54, 56, 54, 57, 55, 48, 55, 49, 55, 50, 55, 51, 55, 52, 55, 53, 55, 54, 55, 55, 55, 56, 55, 57, 56, 48, 56, 49, 56, 50, 56, 51, 56, 52, 56, 53, 56, 54, 56, 55, 56, 56, 56, 57, 57, 48, 57, 49, 57, 50, 57, 51, 57, 52, 57, 53, 57, 54, 57, 55, 57, 56, 57, 57]) (Int.toNat (wu32 ((wu32 (Int.tdiv (Int.tmod (wu32 i50) 10000) 100)) * 2)))))]) fun v61 => asTuple v61 fun l62 => asNil l62 (.ret .normal [(.int .i64 (wi64 (i47 - 4))), (.int .u32 (wu32 (Int.tdiv (wu32 i50) 10000)))]))))))))))))) else (.ret .normal [(.int .i64 i47), (.int .u32 (wu32 i50))])) (T86k3 p0 n1))) (.fail)

/-- internal/strconv.formatBase10 -/
noncomputable def T86 (p0 : (Option Addr)) (n1 : Nat) (n2 : Nat) (i3 : Int) : Pg :=
  .loop [(.int .i64 ((n1 : Nat) : Int)), (.int .u64 i3)] (T86b0 p0 n1) (T86k4 p0 n1)
theorem T86_eq (p0 : (Option Addr)) (n1 : Nat) (n2 : Nat) (i3 : Int) : progOf PROG false 86 [(.slice p0 n1 n2), (.int .u64 i3)] = T86 p0 n1 n2 i3 := by kernel_rfl


-- BAD op makeInterface (.string (bs [115, 116, 114, 99, 111, 110, 118, 58, 32, 105, 108, 108, 101, 103, 97, 108, 32, 65, 112, 112, 101, 110, 100, 73, 110, 116, 47, 70, 111, 114, 109, 97, 116, 73, 110, 116, 32, 98, 97, 115, 101])) ,  at itoa.go:93 in T87
noncomputable def T87k0 : Ex → List Value → Pg :=
  fun e30 l31 => sw e30 .normal (asCons l31 fun v32 l33 => asInt .u64 v32 fun i34 => asCons l33 fun v35 l36 => asInt .i64 v35 fun i37 => asNil l36 (.ret .normal [(.int .u64 i34), (.int .i64 i37)])) (.fail)

noncomputable def T87b0 (i4 : Int) (a11 : Addr) (i20 : Int) : List Value → Pg :=
  fun l21 => asCons l21 fun v22 l23 => asInt .u64 v22 fun i24 => asCons l23 fun v25 l26 => asInt .i64 v25 fun i27 => asNil l26 (bif (decide (i24 ≥ (wu64 i4))) then (.join (grd ((decide (0 ≤ (andI .u64 i24 (wu64 ((wu64 i4) - 1))))) && (decide ((andI .u64 i24 (wu64 ((wu64 i4) - 1))) < 36))) (grd ((decide (0 ≤ (wi64 (i27 - 1)))) && (decide ((wi64 (i27 - 1)) < 65))) (.act (stC (aadd a11 ((Int.toNat (wi64 (i27 - 1))) * 1)) [(.int .u8 (byteAt (bs [48, 49, 50, 51, 52, 53, 54, 55, 56, 57, 97, 98, 99, 100, 101, 102, 103, 104, 105, 106, 107, 108, 109, 110, 111, 112, 113, 114, 115, 116, 117, 118, 119, 120, 121, 122]) (Int.toNat (andI .u64 i24 (wu64 ((wu64 i4) - 1))))))]) fun v28 => asTuple v28 fun l29 => asNil l29 (grd (decide (0 ≤ (wu64 i20))) (.ret .normal [(.int .u64 (shrI .u64 i24 (wu64 i20))), (.int .i64 (wi64 (i27 - 1)))]))))) (T87k0)) else (.ret (.exit 0) [(.int .u64 i24), (.int .i64 i27)]))

noncomputable def T87k1 (a11 : Addr) : Ex → List Value → Pg :=
  fun e38 l39 => sw e38 (.exit 0) (asCons l39 fun v40 l41 => asInt .u64 v40 fun i42 => asCons l41 fun v43 l44 => asInt .i64 v43 fun i45 => asNil l44 (grd ((decide (0 ≤ i42)) && (decide (i42 < 36))) (grd ((decide (0 ≤ (wi64 (i45 - 1)))) && (decide ((wi64 (i45 - 1)) < 65))) (.act (stC (aadd a11 ((Int.toNat (wi64 (i45 - 1))) * 1)) [(.int .u8 (byteAt (bs [48, 49, 50, 51, 52, 53, 54, 55, 56, 57, 97, 98, 99, 100, 101, 102, 103, 104, 105, 106, 107, 108, 109, 110, 111, 112, 113, 114, 115, 116, 117, 118, 119, 120, 121, 122]) (Int.toNat i42)))]) fun v46 => asTuple v46 fun l47 => asNil l47 (.ret .normal [(.int .i64 (wi64 (i45 - 1)))]))))) (.fail)

noncomputable def T87k2 : Ex → List Value → Pg :=
  fun e57 l58 => sw e57 .normal (asCons l58 fun v59 l60 => asInt .u64 v59 fun i61 => asCons l60 fun v62 l63 => asInt .i64 v62 fun i64 => asNil l63 (.ret .normal [(.int .u64 i61), (.int .i64 i64)])) (.fail)

noncomputable def T87b1 (i4 : Int) (a11 : Addr) : List Value → Pg :=
  fun l48 => asCons l48 fun v49 l50 => asInt .u64 v49 fun i51 => asCons l50 fun v52 l53 => asInt .i64 v52 fun i54 => asNil l53 (bif (decide (i51 ≥ (wu64 i4))) then (.join (grd (!(decide ((wu64 i4) = 0))) (grd ((decide (0 ≤ (wu64 (i51 - (wu64 ((wu64 (Int.tdiv i51 (wu64 i4))) * (wu64 i4))))))) && (decide ((wu64 (i51 - (wu64 ((wu64 (Int.tdiv i51 (wu64 i4))) * (wu64 i4))))) < 36))) (grd ((decide (0 ≤ (wi64 (i54 - 1)))) && (decide ((wi64 (i54 - 1)) < 65))) (.act (stC (aadd a11 ((Int.toNat (wi64 (i54 - 1))) * 1)) [(.int .u8 (byteAt (bs [48, 49, 50, 51, 52, 53, 54, 55, 56, 57, 97, 98, 99, 100, 101, 102, 103, 104, 105, 106, 107, 108, 109, 110, 111, 112, 113, 114, 115, 116, 117, 118, 119, 120, 121, 122]) (Int.toNat (wu64 (i51 - (wu64 ((wu64 (Int.tdiv i51 (wu64 i4))) * (wu64 i4))))))))]) fun v55 => asTuple v55 fun l56 => asNil l56 (.ret .normal [(.int .u64 (wu64 (Int.tdiv i51 (wu64 i4)))), (.int .i64 (wi64 (i54 - 1)))]))))) (T87k2)) else (.ret (.exit 2) [(.int .u64 i51), (.int .i64 i54)]))

noncomputable def T87k3 (a11 : Addr) : Ex → List Value → Pg :=
  fun e65 l66 => sw e65 (.exit 2) (asCons l66 fun v67 l68 => asInt .u64 v67 fun i69 => asCons l68 fun v70 l71 => asInt .i64 v70 fun i72 => asNil l71 (grd ((decide (0 ≤ i69)) && (decide (i69 < 36))) (grd ((decide (0 ≤ (wi64 (i72 - 1)))) && (decide ((wi64 (i72 - 1)) < 65))) (.act (stC (aadd a11 ((Int.toNat (wi64 (i72 - 1))) * 1)) [(.int .u8 (byteAt (bs [48, 49, 50, 51, 52, 53, 54, 55, 56, 57, 97, 98, 99, 100, 101, 102, 103, 104, 105, 106, 107, 108, 109, 110, 111, 112, 113, 114, 115, 116, 117, 118, 119, 120, 121, 122]) (Int.toNat i69)))]) fun v73 => asTuple v73 fun l74 => asNil l74 (.ret .normal [(.int .i64 (wi64 (i72 - 1)))]))))) (.fail)

noncomputable def T87k4 (b6 : Bool) (p0 : (Option Addr)) (n1 : Nat) (n2 : Nat) (a11 : Addr) : Ex → List Value → Pg :=
  fun e82 l83 => sw e82 .normal (asCons l83 fun v84 l85 => asInt .i64 v84 fun i86 => asNil l85 (bif b6 then (grd (((decide (0 ≤ i86)) && (decide (i86 ≤ 65))) && true) (.act (apS 1 1 p0 n1 n2 (some (aadd (asRow a11 1) ((Int.toNat i86) * 1))) (65 - (Int.toNat i86)) (65 - (Int.toNat i86))) fun v87 => asSlice v87 fun p88 n89 n90 => .ret .ret [(.tuple #[(.slice p88 n89 n90), (.string (bs []))])])) else (grd (((decide (0 ≤ i86)) && (decide (i86 ≤ 65))) && true) (.act (bytesToStringAct (.slice (some (aadd (asRow a11 1) ((Int.toNat i86) * 1))) (65 - (Int.toNat i86)) (65 - (Int.toNat i86)))) fun v91 => asStr v91 fun s92 => .ret .ret [(.tuple #[(.slice none 0 0), (.string s92)])])))) (.fail)

noncomputable def T87k5 (b5 : Bool) (a11 : Addr) (b6 : Bool) (p0 : (Option Addr)) (n1 : Nat) (n2 : Nat) : Ex → List Value → Pg :=
  fun e75 l76 => sw e75 .normal (asCons l76 fun v77 l78 => asInt .i64 v77 fun i79 => asNil l78 (.join (bif b5 then (grd ((decide (0 ≤ (wi64 (i79 - 1)))) && (decide ((wi64 (i79 - 1)) < 65))) (.act (stC (aadd a11 ((Int.toNat (wi64 (i79 - 1))) * 1)) [(.int .u8 45)]) fun v80 => asTuple v80 fun l81 => asNil l81 (.ret .normal [(.int .i64 (wi64 (i79 - 1)))]))) else (.ret .normal [(.int .i64 i79)])) (T87k4 b6 p0 n1 n2 a11))) (.fail)

noncomputable def T87k6 (i4 : Int) (a11 : Addr) (b5 : Bool) (b6 : Bool) (p0 : (Option Addr)) (n1 : Nat) (n2 : Nat) : Ex → List Value → Pg :=
  fun e12 l13 => sw e12 .normal (asCons l13 fun v14 l15 => asInt .u64 v14 fun i16 => asNil l15 (.call 96 [(.int .i64 i4)] fun v17 => asBool v17 fun b18 => .join (bif b18 then (.call 97 [(.int .u64 (wu64 i4))] fun v19 => asInt .i64 v19 fun i20 => .loop [(.int .u64 i16), (.int .i64 65)] (T87b0 i4 a11 i20) (T87k1 a11)) else (.loop [(.int .u64 i16), (.int .i64 65)] (T87b1 i4 a11) (T87k3 a11))) (T87k5 b5 a11 b6 p0 n1 n2))) (.fail)

noncomputable def T87k7 (b5 : Bool) (i3 : Int) (i4 : Int) (b6 : Bool) (p0 : (Option Addr)) (n1 : Nat) (n2 : Nat) : Ex → List Value → Pg :=
  fun e7 l8 => sw e7 .normal (asNil l8 (.act (newC [(.int .u8 0), (.int .u8 0), (.int .u8 0), (.int .u8 0), (.int .u8 0), (.int .u8 0), (.int .u8 0), (.int .u8 0), (.int .u8 0), (.int .u8 0), (.int .u8 0), (.int .u8 0), (.int .u8 0), (.int .u8 0), (.int .u8 0), (.int .u8 0), (.int .u8 0), (.int .u8 0), (.int .u8 0), (.int .u8 0), (.int .u8 0), (.int .u8 0), (.int .u8 0), (.int .u8 0), (.int .u8 0), (.int .u8 0), (.int .u8 0), (.int .u8 0), (.int .u8 0), (.int .u8 0), (.int .u8 0), (.int .u8 0), (.int .u8 0), (.int .u8 0), (.int .u8 0), (.int .u8 0), (.int .u8 0), (.int .u8 0), (.int .u8 0), (.int .u8 0), (.int .u8 0), (.int .u8 0), (.int .u8 0), (.int .u8 0), (.int .u8 0), (.int .u8 0), (.int .u8 0), (.int .u8 0), (.int .u8 0), (.int .u8 0), (.int .u8 0), (.int .u8 0), (.int .u8 0), (.int .u8 0), (.int .u8 0), (.int .u8 0), (.int .u8 0), (.int .u8 0), (.int .u8 0), (.int .u8 0), (.int .u8 0), (.int .u8 0), (.int .u8 0), (.int .u8 0), (.int .u8 0)]) fun v9 => asPtr v9 fun p10 => asSome p10 fun a11 => .join (bif b5 then (.ret .normal [(.int .u64 (wu64 (0 - i3)))]) else (.ret .normal [(.int .u64 i3)])) (T87k6 i4 a11 b5 b6 p0 n1 n2))) (.fail)

/-- internal/strconv.formatBits -/
noncomputable def T87 (p0 : (Option Addr)) (n1 : Nat) (n2 : Nat) (i3 : Int) (i4 : Int) (b5 : Bool) (b6 : Bool) : Pg :=
  .join (bif (((decide (i4 < 2)) || (i4 == 10)) || (decide (i4 > 36))) then (.fail) else (.ret .normal [])) (T87k7 b5 i3 i4 b6 p0 n1 n2)
theorem T87_eq (p0 : (Option Addr)) (n1 : Nat) (n2 : Nat) (i3 : Int) (i4 : Int) (b5 : Bool) (b6 : Bool) : progOf PROG false 87 [(.slice p0 n1 n2), (.int .u64 i3), (.int .i64 i4), (.bool b5), (.bool b6)] = T87 p0 n1 n2 i3 i4 b5 b6 := by kernel_rfl


/-- internal/strconv.log10Pow2 -/
noncomputable def T93 (i0 : Int) : Pg :=
  .ret .ret [(.int .i64 (shrI .i64 (wi64 (i0 * 78913)) 18))]
theorem T93_eq (i0 : Int) : progOf PROG false 93 [(.int .i64 i0)] = T93 i0 := by kernel_rfl


noncomputable def T94k0 : Ex → List Value → Pg :=
  fun e17 l18 => sw e17 .normal (asCons l18 fun v19 l20 => asInt .i64 v19 fun i21 => asCons l20 fun v22 l23 => asInt .u64 v22 fun i24 => asNil l23 (grd ((decide (0 ≤ (wu8 i24))) && (decide ((wu8 i24) < 256))) (.ret .ret [(.int .i64 (wi64 (i21 + (wi64 (byteAt (bs [0, 1, 2, 2, 3, 3, 3, 3, 4, 4, 4, 4, 4, 4, 4, 4, 5, 5, 5, 5, 5, 5, 5, 5, 5, 5, 5, 5, 5, 5, 5, 5, 6, 6, 6, 6, 6, 6, 6, 6, 6, 6, 6, 6, 6, 6, 6, 6, 6, 6, 6, 6, 6, 6, 6, 6, 6, 6, 6, 6, 6, 6, 6, 6, 7, 7, 7, 7, 7, 7, 7, 7, 7, 7, 7, 7, 7, 7, 7, 7, 7, 7, 7, 7, 7, 7, 7, 7, 7, 7, 7, 7, 7, 7, 7, 7, 7, 7, 7, 7, 7, 7, 7, 7, 7, 7, 7, 7, 7, 7, 7, 7, 7, 7, 7, 7, 7, 7, 7, 7, 7, 7, 7, 7, 7, 7, 7, 7, 8, 8, 8, 8, 8, 8, 8, 8, 8, 8, 8, 8, 8, 8, 8, 8, 8, 8, 8, 8, 8, 8, 8, 8, 8, 8, 8, 8, 8, 8, 8, 8, 8, 8, 8, 8, 8, 8, 8, 8, 8, 8, 8, 8, 8, 8, 8, 8, 8, 8, 8, 8, 8, 8, 8, 8, 8, 8, 8, 8, 8, 8, 8, 8, 8, 8, 8, 8, 8, 8, 8, 8, 8, 8, 8, 8, 8, 8, 8, 8, 8, 8, 8, 8, 8, 8, 8, 8, 8, 8, 8, 8, 8, 8, 8, 8, 8, 8, 8, 8, 8, 8, 8, 8, 8, 8, 8, 8, 8, 8, 8, 8, 8, 8, 8, 8, 8, 8, 8, 8, 8, 8, 8, 8, 8, 8, 8, 8]) (Int.toNat (wu8 i24)))))))]))) (.fail)

noncomputable def T94k1 : Ex → List Value → Pg :=
  fun e9 l10 => sw e9 .normal (asCons l10 fun v11 l12 => asInt .i64 v11 fun i13 => asCons l12 fun v14 l15 => asInt .u64 v14 fun i16 => asNil l15 (.join (bif (decide (i16 ≥ 256)) then (.ret .normal [(.int .i64 (wi64 (i13 + 8))), (.int .u64 (shrI .u64 i16 8))]) else (.ret .normal [(.int .i64 i13), (.int .u64 i16)])) (T94k0))) (.fail)

noncomputable def T94k2 : Ex → List Value → Pg :=
  fun e1 l2 => sw e1 .normal (asCons l2 fun v3 l4 => asInt .i64 v3 fun i5 => asCons l4 fun v6 l7 => asInt .u64 v6 fun i8 => asNil l7 (.join (bif (decide (i8 ≥ 65536)) then (.ret .normal [(.int .i64 (wi64 (i5 + 16))), (.int .u64 (shrI .u64 i8 16))]) else (.ret .normal [(.int .i64 i5), (.int .u64 i8)])) (T94k1))) (.fail)

/-- math/bits.Len64 -/
noncomputable def T94 (i0 : Int) : Pg :=
  .join (bif (decide (i0 ≥ 4294967296)) then (.ret .normal [(.int .i64 32), (.int .u64 (shrI .u64 i0 32))]) else (.ret .normal [(.int .i64 0), (.int .u64 i0)])) (T94k2)
theorem T94_eq (i0 : Int) : progOf PROG false 94 [(.int .u64 i0)] = T94 i0 := by kernel_rfl


/-- internal/strconv.bool2[int] -/
noncomputable def T95 (b0 : Bool) : Pg :=
  bif b0 then (.ret .ret [(.int .i64 1)]) else (.ret .ret [(.int .i64 0)])
theorem T95_eq (b0 : Bool) : progOf PROG false 95 [(.bool b0)] = T95 b0 := by kernel_rfl


/-- internal/strconv.isPowerOfTwo -/
noncomputable def T96 (i0 : Int) : Pg :=
  .ret .ret [(.bool ((andI .i64 i0 (wi64 (i0 - 1))) == 0))]
theorem T96_eq (i0 : Int) : progOf PROG false 96 [(.int .i64 i0)] = T96 i0 := by kernel_rfl


/-- math/bits.TrailingZeros -/
noncomputable def T97 (i0 : Int) : Pg :=
  .call 103 [(.int .u64 i0)] fun v1 => asInt .i64 v1 fun i2 => .ret .ret [(.int .i64 i2)]
theorem T97_eq (i0 : Int) : progOf PROG false 97 [(.int .u64 i0)] = T97 i0 := by kernel_rfl

noncomputable def A5 (args : List Value) : Option Pg := some (progOf PROG false 5 args)
theorem A5_ok : ∀ args p, A5 args = some p → progOf PROG false 5 args = p := fun args p h => Option.some.inj h
noncomputable def A10 : List Value → Option Pg
  | [(.int .i32 i0)] => some (T10 i0)
  | _ => none
theorem A10_ok : ∀ args p, A10 args = some p → progOf PROG false 10 args = p := by
  intro args p h
  unfold A10 at h
  split at h
  · cases h; exact T10_eq _
  · cases h
noncomputable def A11 : List Value → Option Pg
  | [(.string s0)] => some (T11 s0)
  | _ => none
theorem A11_ok : ∀ args p, A11 args = some p → progOf PROG false 11 args = p := by
  intro args p h
  unfold A11 at h
  split at h
  · cases h; exact T11_eq _
  · cases h
noncomputable def A12 : List Value → Option Pg
  | [(.string s0)] => some (T12 s0)
  | _ => none
theorem A12_ok : ∀ args p, A12 args = some p → progOf PROG false 12 args = p := by
  intro args p h
  unfold A12 at h
  split at h
  · cases h; exact T12_eq _
  · cases h
noncomputable def A15 : List Value → Option Pg
  | [] => some (T15)
  | _ => none
theorem A15_ok : ∀ args p, A15 args = some p → progOf PROG false 15 args = p := by
  intro args p h
  unfold A15 at h
  split at h
  · cases h; exact T15_eq 
  · cases h
noncomputable def A16 : List Value → Option Pg
  | [(.string s0)] => some (T16 s0)
  | _ => none
theorem A16_ok : ∀ args p, A16 args = some p → progOf PROG false 16 args = p := by
  intro args p h
  unfold A16 at h
  split at h
  · cases h; exact T16_eq _
  · cases h
noncomputable def A17 (args : List Value) : Option Pg := some (progOf PROG false 17 args)
theorem A17_ok : ∀ args p, A17 args = some p → progOf PROG false 17 args = p := fun args p h => Option.some.inj h
noncomputable def A18 (args : List Value) : Option Pg := some (progOf PROG false 18 args)
theorem A18_ok : ∀ args p, A18 args = some p → progOf PROG false 18 args = p := fun args p h => Option.some.inj h
noncomputable def A37 : List Value → Option Pg
  | [(.string s0)] => some (T37 s0)
  | _ => none
theorem A37_ok : ∀ args p, A37 args = some p → progOf PROG false 37 args = p := by
  intro args p h
  unfold A37 at h
  split at h
  · cases h; exact T37_eq _
  · cases h
noncomputable def A38 : List Value → Option Pg
  | [(.string s0)] => some (T38 s0)
  | _ => none
theorem A38_ok : ∀ args p, A38 args = some p → progOf PROG false 38 args = p := by
  intro args p h
  unfold A38 at h
  split at h
  · cases h; exact T38_eq _
  · cases h
noncomputable def A39 : List Value → Option Pg
  | [(.int .i64 i0), (.slice p1 n2 n3)] => some (T39 i0 p1 n2 n3)
  | _ => none
theorem A39_ok : ∀ args p, A39 args = some p → progOf PROG false 39 args = p := by
  intro args p h
  unfold A39 at h
  split at h
  · cases h; exact T39_eq _ _ _ _
  · cases h
noncomputable def A40 : List Value → Option Pg
  | [(.int .i64 i0)] => some (T40 i0)
  | _ => none
theorem A40_ok : ∀ args p, A40 args = some p → progOf PROG false 40 args = p := by
  intro args p h
  unfold A40 at h
  split at h
  · cases h; exact T40_eq _
  · cases h
noncomputable def A41 : List Value → Option Pg
  | [(.int .i64 i0)] => some (T41 i0)
  | _ => none
theorem A41_ok : ∀ args p, A41 args = some p → progOf PROG false 41 args = p := by
  intro args p h
  unfold A41 at h
  split at h
  · cases h; exact T41_eq _
  · cases h
noncomputable def A42 : List Value → Option Pg
  | [(.int .i64 i0)] => some (T42 i0)
  | _ => none
theorem A42_ok : ∀ args p, A42 args = some p → progOf PROG false 42 args = p := by
  intro args p h
  unfold A42 at h
  split at h
  · cases h; exact T42_eq _
  · cases h
noncomputable def A43 : List Value → Option Pg
  | [(.int .i64 i0), (.int .i64 i1)] => some (T43 i0 i1)
  | _ => none
theorem A43_ok : ∀ args p, A43 args = some p → progOf PROG false 43 args = p := by
  intro args p h
  unfold A43 at h
  split at h
  · cases h; exact T43_eq _ _
  · cases h
noncomputable def A44 : List Value → Option Pg
  | [(.string s0)] => some (T44 s0)
  | _ => none
theorem A44_ok : ∀ args p, A44 args = some p → progOf PROG false 44 args = p := by
  intro args p h
  unfold A44 at h
  split at h
  · cases h; exact T44_eq _
  · cases h
noncomputable def A65 : List Value → Option Pg
  | [(.string s0), v1] => some (T65 s0 v1)
  | _ => none
theorem A65_ok : ∀ args p, A65 args = some p → progOf PROG false 65 args = p := by
  intro args p h
  unfold A65 at h
  split at h
  · cases h; exact T65_eq _ _
  · cases h
noncomputable def A66 : List Value → Option Pg
  | [(.int .i32 i0)] => some (T66 i0)
  | _ => none
theorem A66_ok : ∀ args p, A66 args = some p → progOf PROG false 66 args = p := by
  intro args p h
  unfold A66 at h
  split at h
  · cases h; exact T66_eq _
  · cases h
noncomputable def A67 : List Value → Option Pg
  | [(.string s0)] => some (T67 s0)
  | _ => none
theorem A67_ok : ∀ args p, A67 args = some p → progOf PROG false 67 args = p := by
  intro args p h
  unfold A67 at h
  split at h
  · cases h; exact T67_eq _
  · cases h
noncomputable def A68 : List Value → Option Pg
  | [(.int .i64 i0)] => some (T68 i0)
  | _ => none
theorem A68_ok : ∀ args p, A68 args = some p → progOf PROG false 68 args = p := by
  intro args p h
  unfold A68 at h
  split at h
  · cases h; exact T68_eq _
  · cases h
noncomputable def A69 : List Value → Option Pg
  | [(.int .i64 i0), (.int .i64 i1)] => some (T69 i0 i1)
  | _ => none
theorem A69_ok : ∀ args p, A69 args = some p → progOf PROG false 69 args = p := by
  intro args p h
  unfold A69 at h
  split at h
  · cases h; exact T69_eq _ _
  · cases h
noncomputable def A84 : List Value → Option Pg
  | [(.int .i64 i0)] => some (T84 i0)
  | _ => none
theorem A84_ok : ∀ args p, A84 args = some p → progOf PROG false 84 args = p := by
  intro args p h
  unfold A84 at h
  split at h
  · cases h; exact T84_eq _
  · cases h
noncomputable def A85 : List Value → Option Pg
  | [(.int .u64 i0)] => some (T85 i0)
  | _ => none
theorem A85_ok : ∀ args p, A85 args = some p → progOf PROG false 85 args = p := by
  intro args p h
  unfold A85 at h
  split at h
  · cases h; exact T85_eq _
  · cases h
noncomputable def A86 : List Value → Option Pg
  | [(.slice p0 n1 n2), (.int .u64 i3)] => some (T86 p0 n1 n2 i3)
  | _ => none
theorem A86_ok : ∀ args p, A86 args = some p → progOf PROG false 86 args = p := by
  intro args p h
  unfold A86 at h
  split at h
  · cases h; exact T86_eq _ _ _ _
  · cases h
noncomputable def A87 : List Value → Option Pg
  | [(.slice p0 n1 n2), (.int .u64 i3), (.int .i64 i4), (.bool b5), (.bool b6)] => some (T87 p0 n1 n2 i3 i4 b5 b6)
  | _ => none
theorem A87_ok : ∀ args p, A87 args = some p → progOf PROG false 87 args = p := by
  intro args p h
  unfold A87 at h
  split at h
  · cases h; exact T87_eq _ _ _ _ _ _ _
  · cases h
noncomputable def A93 : List Value → Option Pg
  | [(.int .i64 i0)] => some (T93 i0)
  | _ => none
theorem A93_ok : ∀ args p, A93 args = some p → progOf PROG false 93 args = p := by
  intro args p h
  unfold A93 at h
  split at h
  · cases h; exact T93_eq _
  · cases h
noncomputable def A94 : List Value → Option Pg
  | [(.int .u64 i0)] => some (T94 i0)
  | _ => none
theorem A94_ok : ∀ args p, A94 args = some p → progOf PROG false 94 args = p := by
  intro args p h
  unfold A94 at h
  split at h
  · cases h; exact T94_eq _
  · cases h
noncomputable def A95 : List Value → Option Pg
  | [(.bool b0)] => some (T95 b0)
  | _ => none
theorem A95_ok : ∀ args p, A95 args = some p → progOf PROG false 95 args = p := by
  intro args p h
  unfold A95 at h
  split at h
  · cases h; exact T95_eq _
  · cases h
noncomputable def A96 : List Value → Option Pg
  | [(.int .i64 i0)] => some (T96 i0)
  | _ => none
theorem A96_ok : ∀ args p, A96 args = some p → progOf PROG false 96 args = p := by
  intro args p h
  unfold A96 at h
  split at h
  · cases h; exact T96_eq _
  · cases h
noncomputable def A97 : List Value → Option Pg
  | [(.int .u64 i0)] => some (T97 i0)
  | _ => none
theorem A97_ok : ∀ args p, A97 args = some p → progOf PROG false 97 args = p := by
  intro args p h
  unfold A97 at h
  split at h
  · cases h; exact T97_eq _
  · cases h
noncomputable def A103 (args : List Value) : Option Pg := some (progOf PROG false 103 args)
theorem A103_ok : ∀ args p, A103 args = some p → progOf PROG false 103 args = p := fun args p h => Option.some.inj h
noncomputable def TAB : Tab := (.low 43 (.low 17 (.low 11 (.one 5 A5 (.one 10 A10 (.one 11 A11 .nil))) (.low 15 (.one 12 A12 (.one 15 A15 .nil)) (.one 16 A16 (.one 17 A17 .nil)))) (.low 39 (.low 37 (.one 18 A18 (.one 37 A37 .nil)) (.one 38 A38 (.one 39 A39 .nil))) (.low 41 (.one 40 A40 (.one 41 A41 .nil)) (.one 42 A42 (.one 43 A43 .nil))))) (.low 85 (.low 67 (.low 65 (.one 44 A44 (.one 65 A65 .nil)) (.one 66 A66 (.one 67 A67 .nil))) (.low 69 (.one 68 A68 (.one 69 A69 .nil)) (.one 84 A84 (.one 85 A85 .nil)))) (.low 94 (.low 87 (.one 86 A86 (.one 87 A87 .nil)) (.one 93 A93 (.one 94 A94 .nil))) (.low 96 (.one 95 A95 (.one 96 A96 .nil)) (.one 97 A97 (.one 103 A103 .nil))))))
theorem TAB_ok : TabOK PROG TAB := (.low (.low (.low (.one A5_ok (.one A10_ok (.one A11_ok .nil))) (.low (.one A12_ok (.one A15_ok .nil)) (.one A16_ok (.one A17_ok .nil)))) (.low (.low (.one A18_ok (.one A37_ok .nil)) (.one A38_ok (.one A39_ok .nil))) (.low (.one A40_ok (.one A41_ok .nil)) (.one A42_ok (.one A43_ok .nil))))) (.low (.low (.low (.one A44_ok (.one A65_ok .nil)) (.one A66_ok (.one A67_ok .nil))) (.low (.one A68_ok (.one A69_ok .nil)) (.one A84_ok (.one A85_ok .nil)))) (.low (.low (.one A86_ok (.one A87_ok .nil)) (.one A93_ok (.one A94_ok .nil))) (.low (.one A95_ok (.one A96_ok .nil)) (.one A97_ok (.one A103_ok .nil))))))

end Go.Pg
