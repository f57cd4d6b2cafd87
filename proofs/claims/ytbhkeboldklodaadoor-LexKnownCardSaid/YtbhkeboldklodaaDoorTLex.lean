/- The trees of the functions that the law reaches, written out by program; each is shown to be the function's own; then their table. -/
import Derived.Test.YtbhkeboldklodaaDoorProg
import Derived.KernelRfl
import Derived.Test.YtbhkeboldklodaaDoorPg3
namespace Go.Pg
open Go.Proofs
set_option linter.unusedVariables false
noncomputable abbrev PROG : Program := Tryd.prog

noncomputable def T10k0 (i0 : Int) : Ex → List Value → Pg :=
  fun e3 l4 => sw e3 .normal (asCons l4 fun v5 l6 => asBool v5 fun b7 => asNil l6 (bif b7 then (.ret .ret [(.int .i64 1)]) else (bif ((decide (i0 ≥ 48)) && (decide (i0 ≤ 57))) then (.ret .ret [(.int .i64 2)]) else (.ret .normal [(.int .i64 0)])))) (.fail)

noncomputable def T10k1 : Ex → List Value → Pg :=
  fun e16 l17 => sw e16 .normal (asCons l17 fun v18 l19 => asBool v18 fun b20 => asNil l19 (.ret .normal [(.bool b20)])) (.fail)

noncomputable def T10k2 : Ex → List Value → Pg :=
  fun e21 l22 => sw e21 .normal (asCons l22 fun v23 l24 => asBool v23 fun b25 => asNil l24 (.ret .normal [(.bool b25)])) (.fail)

noncomputable def T10k3 : Ex → List Value → Pg :=
  fun e31 l32 => sw e31 .normal (asCons l32 fun v33 l34 => asBool v33 fun b35 => asNil l34 (.ret .normal [(.bool b35)])) (.fail)

noncomputable def T10k4 : Ex → List Value → Pg :=
  fun e36 l37 => sw e36 .normal (asCons l37 fun v38 l39 => asBool v38 fun b40 => asNil l39 (.ret .normal [(.bool b40)])) (.fail)

noncomputable def T10k5 : Ex → List Value → Pg :=
  fun e41 l42 => sw e41 .normal (asCons l42 fun v43 l44 => asBool v43 fun b45 => asNil l44 (.ret .normal [(.bool b45)])) (.fail)

noncomputable def T10k6 : Ex → List Value → Pg :=
  fun e46 l47 => sw e46 .normal (asCons l47 fun v48 l49 => asBool v48 fun b50 => asNil l49 (.ret .normal [(.bool b50)])) (.fail)

noncomputable def T10k7 : Ex → List Value → Pg :=
  fun e51 l52 => sw e51 .normal (asCons l52 fun v53 l54 => asBool v53 fun b55 => asNil l54 (.ret .normal [(.bool b55)])) (.fail)

noncomputable def T10k8 : Ex → List Value → Pg :=
  fun e56 l57 => sw e56 .normal (asCons l57 fun v58 l59 => asBool v58 fun b60 => asNil l59 (.ret .normal [(.bool b60)])) (.fail)

noncomputable def T10k9 : Ex → List Value → Pg :=
  fun e61 l62 => sw e61 .normal (asCons l62 fun v63 l64 => asBool v63 fun b65 => asNil l64 (.ret .normal [(.bool b65)])) (.fail)

noncomputable def T10k10 : Ex → List Value → Pg :=
  fun e66 l67 => sw e66 .normal (asCons l67 fun v68 l69 => asBool v68 fun b70 => asNil l69 (.ret .normal [(.bool b70)])) (.fail)

noncomputable def T10k11 : Ex → List Value → Pg :=
  fun e71 l72 => sw e71 .normal (asCons l72 fun v73 l74 => asBool v73 fun b75 => asNil l74 (.ret .normal [(.bool b75)])) (.fail)

noncomputable def T10k12 : Ex → List Value → Pg :=
  fun e76 l77 => sw e76 .normal (asCons l77 fun v78 l79 => asBool v78 fun b80 => asNil l79 (.ret .normal [(.bool b80)])) (.fail)

noncomputable def T10k13 : Ex → List Value → Pg :=
  fun e81 l82 => sw e81 .normal (asCons l82 fun v83 l84 => asBool v83 fun b85 => asNil l84 (.ret .normal [(.bool b85)])) (.fail)

noncomputable def T10k14 (i15 : Int) : Ex → List Value → Pg :=
  fun e86 l87 => sw e86 .normal (asCons l87 fun v88 l89 => asBool v88 fun b90 => asNil l89 (bif b90 then (.ret .ret [(.int .i64 4)]) else (.ret .normal [(.int .i64 i15)]))) (.fail)

noncomputable def T10k15 (i0 : Int) (i15 : Int) : Ex → List Value → Pg :=
  fun e26 l27 => sw e26 .normal (asCons l27 fun v28 l29 => asBool v28 fun b30 => asNil l29 (bif b30 then (.ret .ret [(.int .i64 3)]) else (.join (bif (i0 == 40) then (.ret .normal [(.bool (i0 == 40))]) else (.join (bif (i0 == 41) then (.ret .normal [(.bool (i0 == 41))]) else (.join (bif (i0 == 44) then (.ret .normal [(.bool (i0 == 44))]) else (.join (bif (i0 == 59) then (.ret .normal [(.bool (i0 == 59))]) else (.join (bif (i0 == 61) then (.ret .normal [(.bool (i0 == 61))]) else (.join (bif (i0 == 60) then (.ret .normal [(.bool (i0 == 60))]) else (.join (bif (i0 == 62) then (.ret .normal [(.bool (i0 == 62))]) else (.join (bif (i0 == 43) then (.ret .normal [(.bool (i0 == 43))]) else (.join (bif (i0 == 45) then (.ret .normal [(.bool (i0 == 45))]) else (.join (bif (i0 == 42) then (.ret .normal [(.bool (i0 == 42))]) else (.join (bif (i0 == 124) then (.ret .normal [(.bool (i0 == 124))]) else (.join (bif (i0 == 33) then (.ret .normal [(.bool (i0 == 33))]) else (.ret .normal [(.bool (i0 == 58))])) (T10k3))) (T10k4))) (T10k5))) (T10k6))) (T10k7))) (T10k8))) (T10k9))) (T10k10))) (T10k11))) (T10k12))) (T10k13))) (T10k14 i15)))) (.fail)

noncomputable def T10k16 : Ex → List Value → Pg :=
  fun e91 l92 => sw e91 .ret (asCons l92 fun v93 l94 => asInt .i64 v93 fun i95 => asNil l94 (.ret .ret [(.int .i64 i95)])) (sw e91 .normal (asCons l92 fun v96 l97 => asInt .i64 v96 fun i98 => asNil l97 (.ret .ret [(.int .i64 0)])) (.fail))

noncomputable def T10k17 (i0 : Int) : Ex → List Value → Pg :=
  fun e8 l9 => sw e8 .ret (asCons l9 fun v10 l11 => asInt .i64 v10 fun i12 => asNil l11 (.ret .ret [(.int .i64 i12)])) (sw e8 .normal (asCons l9 fun v13 l14 => asInt .i64 v13 fun i15 => asNil l14 (.join (.join (bif (i0 == 32) then (.ret .normal [(.bool (i0 == 32))]) else (.join (bif (i0 == 9) then (.ret .normal [(.bool (i0 == 9))]) else (.join (bif (i0 == 10) then (.ret .normal [(.bool (i0 == 10))]) else (.ret .normal [(.bool (i0 == 13))])) (T10k1))) (T10k2))) (T10k15 i0 i15)) (T10k16))) (.fail))

/-- hindsight/chars.Class -/
noncomputable def T10 (i0 : Int) : Pg :=
  .join (.join (bif ((i0 == 95) || (i0 == 39)) == false then (.call 33 [(.int .i32 i0)] fun v1 => asBool v1 fun b2 => .ret .normal [(.bool b2)]) else (.ret .normal [(.bool true)])) (T10k0 i0)) (T10k17 i0)
theorem T10_eq (i0 : Int) : progOf PROG false 10 [(.int .i32 i0)] = T10 i0 := by kernel_rfl


noncomputable def T11k0 : Ex → List Value → Pg :=
  fun e13 l14 => sw e13 .ret (asCons l14 fun v15 l16 => asBool v15 fun b17 => asNil l16 (.ret .ret [(.bool b17)])) (.fail)

noncomputable def T11b0 (a3 : Addr) : List Value → Pg :=
  fun l4 => asCons l4 fun v5 l6 => asBool v5 fun b7 => asNil l6 (.act (nxt (some a3)) fun v8 => asNx v8 (fun i9 i10 => .join (.call 34 [(.int .i32 i10)] fun v11 => asBool v11 fun b12 => .ret .ret [(.bool b12)]) (T11k0)) (.ret (.exit 0) [(.bool b7)]))

noncomputable def T11k1 : Ex → List Value → Pg :=
  fun e18 l19 => sw e18 (.exit 0) (asCons l19 fun v20 l21 => asBool v20 fun b22 => asNil l21 (.ret .ret [(.bool false)])) (sw e18 .ret (asCons l19 fun v23 l24 => asBool v23 fun b25 => asNil l24 (.ret .ret [(.bool b25)])) (.fail))

/-- hindsight/chars.Upper -/
noncomputable def T11 (s0 : ByteArray) : Pg :=
  .act (rng s0) fun v1 => asPtr v1 fun p2 => asSome p2 fun a3 => .loop [(.bool false)] (T11b0 a3) (T11k1)
theorem T11_eq (s0 : ByteArray) : progOf PROG false 11 [(.string s0)] = T11 s0 := by kernel_rfl


noncomputable def T13k0 : Ex → List Value → Pg :=
  fun e49 l50 => sw e49 .normal (asCons l50 fun v51 l52 => asBool v51 fun b53 => asNil l52 (.ret .ret [(.bool b53)])) (.fail)

/-- hindsight/hindsightlaw2.awake -/
noncomputable def T13 : Pg :=
  .call 14 [(.string (bs [108, 101, 116, 32, 120, 32, 61, 32, 49]))] fun v0 => asTuple v0 fun l1 => asCons l1 fun v2 l3 => asSlice v2 fun p4 n5 n6 => asCons l3 fun v7 l8 => asInt .i64 v7 fun i9 => asCons l8 fun v10 l11 => asInt .i64 v10 fun i12 => asNil l11 (.join (bif ((i9 == 0) && (i12 == 0)) == true then (bif (((n5 : Nat) : Int) == 4) == true then (asSome p4 fun a13 => grd (decide (0 < ((n5 : Nat) : Int))) (.act (ldN 4 (aadd a13 0)) fun v14 => asAgg v14 fun l15 => asCons l15 fun v16 l17 => asInt .i64 v16 fun i18 => asCons l17 fun v19 l20 => asStr v19 fun s21 => asCons l20 fun v22 l23 => asInt .i64 v22 fun i24 => asCons l23 fun v25 l26 => asInt .i64 v25 fun i27 => asNil l26 (bif ((i18 == 4) && ((s21.toList == (bs [108, 101, 116]).toList) && ((i24 == 0) && ((i27 == 3) && true)))) == true then (asSome p4 fun a28 => grd (decide (1 < ((n5 : Nat) : Int))) (.act (ld1 (aadd (aadd a28 4) 0)) fun v29 => asInt .i64 v29 fun i30 => bif (i30 == 2) == true then (asSome p4 fun a31 => grd (decide (2 < ((n5 : Nat) : Int))) (.act (ld1 (aadd (aadd a31 8) 0)) fun v32 => asInt .i64 v32 fun i33 => bif (i33 == 5) == true then (asSome p4 fun a34 => grd (decide (3 < ((n5 : Nat) : Int))) (.act (ldN 4 (aadd a34 12)) fun v35 => asAgg v35 fun l36 => asCons l36 fun v37 l38 => asInt .i64 v37 fun i39 => asCons l38 fun v40 l41 => asStr v40 fun s42 => asCons l41 fun v43 l44 => asInt .i64 v43 fun i45 => asCons l44 fun v46 l47 => asInt .i64 v46 fun i48 => asNil l47 (.ret .normal [(.bool ((i39 == 1) && ((s42.toList == (bs [49]).toList) && ((i45 == 8) && ((i48 == 9) && true)))))]))) else (.ret .normal [(.bool false)]))) else (.ret .normal [(.bool false)]))) else (.ret .normal [(.bool false)])))) else (.ret .normal [(.bool false)])) else (.ret .normal [(.bool false)])) (T13k0))
theorem T13_eq : progOf PROG false 13 [] = T13 := by kernel_rfl


noncomputable def T14k0 (a42 : Addr) : Ex → List Value → Pg :=
  fun e47 l48 => sw e47 .ret (asCons l48 fun v49 l50 => asInt .i64 v49 fun i51 => asCons l50 fun v52 l53 => asInt .i64 v52 fun i54 => asCons l53 fun v55 l56 => asSlice v55 fun p57 n58 n59 => asNil l56 (.ret .ret [(.int .i64 i54), (.slice p57 n58 n59), (.int .i64 i51)])) (sw e47 .normal (asCons l48 fun v60 l61 => asInt .i64 v60 fun i62 => asCons l61 fun v63 l64 => asInt .i64 v63 fun i65 => asCons l64 fun v66 l67 => asSlice v66 fun p68 n69 n70 => asNil l67 (.act (ld1 (aadd a42 1)) fun v71 => asStr v71 fun s72 => .act (stC (aadd a42 2) [(.int .i64 i62)]) fun v73 => asTuple v73 fun l74 => asNil l74 (.act (stC (aadd a42 3) [(.int .i64 (wi64 (i62 + ((s72.size : Nat) : Int))))]) fun v75 => asTuple v75 fun l76 => asNil l76 (.act (ldN 4 a42) fun v77 => asAgg v77 fun l78 => asCons l78 fun v79 l80 => asInt .i64 v79 fun i81 => asCons l80 fun v82 l83 => asStr v82 fun s84 => asCons l83 fun v85 l86 => asInt .i64 v85 fun i87 => asCons l86 fun v88 l89 => asInt .i64 v88 fun i90 => asNil l89 (.act (bdSl 4 1 [(.int .i64 i81), (.string s84), (.int .i64 i87), (.int .i64 i90)]) fun v91 => asSlice v91 fun p92 n93 n94 => .act (apS 4 40 p68 n69 n70 p92 n93 n94) fun v95 => asSlice v95 fun p96 n97 n98 => .act (ld1 (aadd a42 3)) fun v99 => asInt .i64 v99 fun i100 => .ret .normal [(.int .i64 i65), (.slice p96 n97 n98), (.int .i64 i100)]))))) (.fail))

noncomputable def T14k1 (p7 : (Option Addr)) (n8 : Nat) (n9 : Nat) (b20 : Bool) (i12 : Int) (i17 : Int) (s0 : ByteArray) (i4 : Int) : Ex → List Value → Pg :=
  fun e21 l22 => sw e21 .normal (asCons l22 fun v23 l24 => asBool v23 fun b25 => asNil l24 (bif b25 then (.ret .ret [(.int .i64 0), (.slice p7 n8 n9), (.int .i64 0)]) else (bif (!b20) then (.ret .ret [(.int .i64 3), (.slice none 0 0), (.int .i64 (wi64 (i12 + i17)))]) else (grd (((decide (0 ≤ (wi64 (i12 + i17)))) && (decide ((wi64 (i12 + i17)) ≤ ((s0.size : Nat) : Int)))) && (decide (((s0.size : Nat) : Int) ≤ ((s0.size : Nat) : Int)))) (.call 36 [(.string (s0.extract (Int.toNat (wi64 (i12 + i17))) s0.size))] fun v26 => asAgg v26 fun l27 => asCons l27 fun v28 l29 => asInt .i64 v28 fun i30 => asCons l29 fun v31 l32 => asStr v31 fun s33 => asCons l32 fun v34 l35 => asInt .i64 v34 fun i36 => asCons l35 fun v37 l38 => asInt .i64 v37 fun i39 => asNil l38 (.act (newC [(.int .i64 0), (.string (bs [])), (.int .i64 0), (.int .i64 0)]) fun v40 => asPtr v40 fun p41 => asSome p41 fun a42 => .act (stC a42 [(.int .i64 i30), (.string s33), (.int .i64 i36), (.int .i64 i39)]) fun v43 => asTuple v43 fun l44 => asNil l44 (.join (.act (ld1 (aadd a42 0)) fun v45 => asInt .i64 v45 fun i46 => bif (i46 == 0) then (.ret .ret [(.int .i64 (wi64 (i12 + i17))), (.int .i64 3), (.slice none 0 0)]) else (bif (decide (((n8 : Nat) : Int) ≥ 2000)) then (.ret .ret [(.int .i64 (wi64 (i12 + i17))), (.int .i64 2), (.slice none 0 0)]) else (.ret .normal [(.int .i64 (wi64 (i12 + i17))), (.int .i64 i4), (.slice p7 n8 n9)]))) (T14k0 a42)))))))) (.fail)

noncomputable def T14k2 : Ex → List Value → Pg :=
  fun e101 l102 => sw e101 .ret (asCons l102 fun v103 l104 => asInt .i64 v103 fun i105 => asCons l104 fun v106 l107 => asSlice v106 fun p108 n109 n110 => asCons l107 fun v111 l112 => asInt .i64 v111 fun i113 => asNil l112 (.ret .ret [(.int .i64 i105), (.slice p108 n109 n110), (.int .i64 i113)])) (sw e101 .normal (asCons l102 fun v114 l115 => asInt .i64 v114 fun i116 => asCons l115 fun v117 l118 => asSlice v117 fun p119 n120 n121 => asCons l118 fun v122 l123 => asInt .i64 v122 fun i124 => asNil l123 (.ret .normal [(.int .i64 i116), (.slice p119 n120 n121), (.int .i64 i124)])) (.fail))

noncomputable def T14b0 (s0 : ByteArray) : List Value → Pg :=
  fun l1 => asCons l1 fun v2 l3 => asInt .i64 v2 fun i4 => asCons l3 fun v5 l6 => asSlice v5 fun p7 n8 n9 => asCons l6 fun v10 l11 => asInt .i64 v10 fun i12 => asNil l11 (.join (grd (((decide (0 ≤ i12)) && (decide (i12 ≤ ((s0.size : Nat) : Int)))) && (decide (((s0.size : Nat) : Int) ≤ ((s0.size : Nat) : Int)))) (.call 35 [(.string (s0.extract (Int.toNat i12) s0.size))] fun v13 => asTuple v13 fun l14 => asCons l14 fun v15 l16 => asInt .i64 v15 fun i17 => asCons l16 fun v18 l19 => asBool v18 fun b20 => asNil l19 (.join (bif b20 == true then (.ret .normal [(.bool ((wi64 (i12 + i17)) == ((s0.size : Nat) : Int)))]) else (.ret .normal [(.bool false)])) (T14k1 p7 n8 n9 b20 i12 i17 s0 i4)))) (T14k2))

noncomputable def T14k3 : Ex → List Value → Pg :=
  fun e125 l126 => sw e125 .ret (asCons l126 fun v127 l128 => asInt .i64 v127 fun i129 => asCons l128 fun v130 l131 => asSlice v130 fun p132 n133 n134 => asCons l131 fun v135 l136 => asInt .i64 v135 fun i137 => asNil l136 (.ret .ret [(.tuple #[(.slice p132 n133 n134), (.int .i64 i129), (.int .i64 i137)])])) (.fail)

/-- hindsight/lex.Lex -/
noncomputable def T14 (s0 : ByteArray) : Pg :=
  bif (decide (((s0.size : Nat) : Int) > 4000)) then (.ret .ret [(.tuple #[(.slice none 0 0), (.int .i64 2), (.int .i64 0)])]) else (.loop [(.int .i64 0), (.slice none 0 0), (.int .i64 0)] (T14b0 s0) (T14k3))
theorem T14_eq (s0 : ByteArray) : progOf PROG false 14 [(.string s0)] = T14 s0 := by kernel_rfl


noncomputable def T35k0 : Ex → List Value → Pg :=
  fun e17 l18 => sw e17 .ret (asCons l18 fun v19 l20 => asBool v19 fun b21 => asCons l20 fun v22 l23 => asInt .i64 v22 fun i24 => asCons l23 fun v25 l26 => asInt .i64 v25 fun i27 => asNil l26 (.ret .ret [(.bool b21), (.int .i64 i24), (.int .i64 i27)])) (sw e17 .normal (asCons l18 fun v28 l29 => asBool v28 fun b30 => asCons l29 fun v31 l32 => asInt .i64 v31 fun i33 => asCons l32 fun v34 l35 => asInt .i64 v34 fun i36 => asNil l35 (.ret .normal [(.bool b30), (.int .i64 i33), (.int .i64 i36)])) (.fail))

noncomputable def T35b0 (s0 : ByteArray) : List Value → Pg :=
  fun l1 => asCons l1 fun v2 l3 => asBool v2 fun b4 => asCons l3 fun v5 l6 => asInt .i64 v5 fun i7 => asCons l6 fun v8 l9 => asInt .i64 v8 fun i10 => asNil l9 (.join (grd (((decide (0 ≤ i10)) && (decide (i10 ≤ ((s0.size : Nat) : Int)))) && (decide (((s0.size : Nat) : Int) ≤ ((s0.size : Nat) : Int)))) (.call 56 [(.string (s0.extract (Int.toNat i10) s0.size)), (.func (.func 57) #[] #[])] fun v11 => asInt .i64 v11 fun i12 => grd (((decide (0 ≤ (wi64 (i10 + i12)))) && (decide ((wi64 (i10 + i12)) ≤ ((s0.size : Nat) : Int)))) && (decide (((s0.size : Nat) : Int) ≤ ((s0.size : Nat) : Int)))) (.call 58 [(.string (s0.extract (Int.toNat (wi64 (i10 + i12))) s0.size)), (.string (bs [40, 42]))] fun v13 => asBool v13 fun b14 => bif (!b14) then (.ret .ret [(.bool true), (.int .i64 (wi64 (i10 + i12))), (.int .i64 (wi64 (i10 + i12)))]) else (grd (((decide (0 ≤ (wi64 (i10 + i12)))) && (decide ((wi64 (i10 + i12)) ≤ ((s0.size : Nat) : Int)))) && (decide (((s0.size : Nat) : Int) ≤ ((s0.size : Nat) : Int)))) (.call 59 [(.string (s0.extract (Int.toNat (wi64 (i10 + i12))) s0.size))] fun v15 => asInt .i64 v15 fun i16 => bif (i16 == 0) then (.ret .ret [(.bool false), (.int .i64 (wi64 (i10 + i12))), (.int .i64 (wi64 (i10 + i12)))]) else (.ret .normal [(.bool b4), (.int .i64 i7), (.int .i64 (wi64 ((wi64 (i10 + i12)) + i16)))])))))) (T35k0))

noncomputable def T35k1 : Ex → List Value → Pg :=
  fun e37 l38 => sw e37 .ret (asCons l38 fun v39 l40 => asBool v39 fun b41 => asCons l40 fun v42 l43 => asInt .i64 v42 fun i44 => asCons l43 fun v45 l46 => asInt .i64 v45 fun i47 => asNil l46 (.ret .ret [(.tuple #[(.int .i64 i44), (.bool b41)])])) (.fail)

/-- hindsight/lex.skip -/
noncomputable def T35 (s0 : ByteArray) : Pg :=
  .loop [(.bool false), (.int .i64 0), (.int .i64 0)] (T35b0 s0) (T35k1)
theorem T35_eq (s0 : ByteArray) : progOf PROG false 35 [(.string s0)] = T35 s0 := by kernel_rfl


noncomputable def T36k0 : Ex → List Value → Pg :=
  fun e58 l59 => sw e58 .ret (asNil l59 (.ret .ret [])) (sw e58 .normal (asNil l59 (.ret .normal [])) (.fail))

noncomputable def T36k1 : Ex → List Value → Pg :=
  fun e60 l61 => sw e60 .ret (asNil l61 (.ret .ret [])) (sw e60 .normal (asNil l61 (.ret .normal [])) (.fail))

noncomputable def T36k2 (a3 : Addr) : Ex → List Value → Pg :=
  fun e62 l63 => sw e62 .ret (asNil l63 (.act (ldN 4 a3) fun v64 => .ret .ret [v64])) (sw e62 .normal (asNil l63 (.act (stC a3 [(.int .i64 0), (.string (bs [])), (.int .i64 0), (.int .i64 0)]) fun v65 => asTuple v65 fun l66 => asNil l66 (.act (ldN 4 a3) fun v67 => .ret .ret [v67]))) (.fail))

/-- hindsight/lex.word -/
noncomputable def T36 (s0 : ByteArray) : Pg :=
  .act (newC [(.int .i64 0), (.string (bs [])), (.int .i64 0), (.int .i64 0)]) fun v1 => asPtr v1 fun p2 => asSome p2 fun a3 => .call 60 [(.string s0)] fun v4 => asTuple v4 fun l5 => asCons l5 fun v6 l7 => asInt .i32 v6 fun i8 => asCons l7 fun v9 l10 => asInt .i64 v9 fun i11 => asNil l10 (.call 10 [(.int .i32 i8)] fun v12 => asInt .i64 v12 fun i13 => .join (.join (bif (i13 == 1) then (bif (i8 != 39) then (.call 61 [(.string s0)] fun v14 => asAgg v14 fun l15 => asCons l15 fun v16 l17 => asInt .i64 v16 fun i18 => asCons l17 fun v19 l20 => asStr v19 fun s21 => asCons l20 fun v22 l23 => asInt .i64 v22 fun i24 => asCons l23 fun v25 l26 => asInt .i64 v25 fun i27 => asNil l26 (.act (stC a3 [(.int .i64 i18), (.string s21), (.int .i64 i24), (.int .i64 i27)]) fun v28 => asTuple v28 fun l29 => asNil l29 (.ret .ret []))) else (.ret .normal [])) else (.join (bif (i13 == 2) then (.call 56 [(.string s0), (.func (.func 62) #[] #[])] fun v30 => asInt .i64 v30 fun i31 => grd ((decide (0 ≤ i31)) && (decide (i31 ≤ ((s0.size : Nat) : Int)))) (.call 63 [(.string (s0.extract 0 (Int.toNat i31)))] fun v32 => asTuple v32 fun l33 => asCons l33 fun v34 l35 => asInt .i64 v34 fun i36 => asCons l35 fun v37 l38 => asBool v37 fun b39 => asNil l38 (bif b39 then (grd ((decide (0 ≤ i31)) && (decide (i31 ≤ ((s0.size : Nat) : Int)))) (.act (stC a3 [(.int .i64 1), (.string (s0.extract 0 (Int.toNat i31))), (.int .i64 0), (.int .i64 0)]) fun v40 => asTuple v40 fun l41 => asNil l41 (.ret .ret []))) else (.ret .normal [])))) else (bif (i13 == 4) then (.call 64 [(.string s0)] fun v42 => asAgg v42 fun l43 => asCons l43 fun v44 l45 => asInt .i64 v44 fun i46 => asCons l45 fun v47 l48 => asStr v47 fun s49 => asCons l48 fun v50 l51 => asInt .i64 v50 fun i52 => asCons l51 fun v53 l54 => asInt .i64 v53 fun i55 => asNil l54 (.act (stC a3 [(.int .i64 i46), (.string s49), (.int .i64 i52), (.int .i64 i55)]) fun v56 => asTuple v56 fun l57 => asNil l57 (.ret .ret []))) else (.ret .normal []))) (T36k0))) (T36k1)) (T36k2 a3))
theorem T36_eq (s0 : ByteArray) : progOf PROG false 36 [(.string s0)] = T36 s0 := by kernel_rfl


noncomputable def T56k0 : Ex → List Value → Pg :=
  fun e17 l18 => sw e17 .ret (asCons l18 fun v19 l20 => asInt .i64 v19 fun i21 => asNil l20 (.ret .ret [(.int .i64 i21)])) (sw e17 .normal (asCons l18 fun v22 l23 => asInt .i64 v22 fun i24 => asNil l23 (.ret .normal [(.int .i64 i24)])) (.fail))

noncomputable def T56b0 (a4 : Addr) (v1 : Value) : List Value → Pg :=
  fun l5 => asCons l5 fun v6 l7 => asInt .i64 v6 fun i8 => asNil l7 (.act (nxt (some a4)) fun v9 => asNx v9 (fun i10 i11 => .join (asFunc v1 fun n12 l13 l14 => .call n12 (l13 ++ [(.int .i32 i11)] ++ l14) fun v15 => asBool v15 fun b16 => bif (!b16) then (.ret .ret [(.int .i64 i10)]) else (.ret .normal [(.int .i64 i8)])) (T56k0)) (.ret (.exit 0) [(.int .i64 i8)]))

noncomputable def T56k1 (s0 : ByteArray) : Ex → List Value → Pg :=
  fun e25 l26 => sw e25 (.exit 0) (asCons l26 fun v27 l28 => asInt .i64 v27 fun i29 => asNil l28 (.ret .ret [(.int .i64 ((s0.size : Nat) : Int))])) (sw e25 .ret (asCons l26 fun v30 l31 => asInt .i64 v30 fun i32 => asNil l31 (.ret .ret [(.int .i64 i32)])) (.fail))

/-- hindsight/lex.run -/
noncomputable def T56 (s0 : ByteArray) (v1 : Value) : Pg :=
  .act (rng s0) fun v2 => asPtr v2 fun p3 => asSome p3 fun a4 => .loop [(.int .i64 0)] (T56b0 a4 v1) (T56k1 s0)
theorem T56_eq (s0 : ByteArray) (v1 : Value) : progOf PROG false 56 [(.string s0), v1] = T56 s0 v1 := by kernel_rfl


/-- hindsight/lex.skip$1 -/
noncomputable def T57 (i0 : Int) : Pg :=
  .call 10 [(.int .i32 i0)] fun v1 => asInt .i64 v1 fun i2 => .ret .ret [(.bool (i2 == 3))]
theorem T57_eq (i0 : Int) : progOf PROG false 57 [(.int .i32 i0)] = T57 i0 := by kernel_rfl


/-- strings.HasPrefix -/
noncomputable def T58 (s0 : ByteArray) (s1 : ByteArray) : Pg :=
  .call 80 [(.string s0), (.string s1)] fun v2 => asBool v2 fun b3 => .ret .ret [(.bool b3)]
theorem T58_eq (s0 : ByteArray) (s1 : ByteArray) : progOf PROG false 58 [(.string s0), (.string s1)] = T58 s0 s1 := by kernel_rfl


noncomputable def T59k0 : Ex → List Value → Pg :=
  fun e15 l16 => sw e15 .normal (asCons l16 fun v17 l18 => asInt .i64 v17 fun i19 => asCons l18 fun v20 l21 => asInt .i64 v20 fun i22 => asNil l21 (.ret .normal [(.int .i64 i19), (.int .i64 i22)])) (.fail)

noncomputable def T59k1 : Ex → List Value → Pg :=
  fun e23 l24 => sw e23 .normal (asCons l24 fun v25 l26 => asInt .i64 v25 fun i27 => asCons l26 fun v28 l29 => asInt .i64 v28 fun i30 => asNil l29 (.ret .normal [(.int .i64 i27), (.int .i64 i30)])) (.fail)

noncomputable def T59k2 (i4 : Int) : Ex → List Value → Pg :=
  fun e31 l32 => sw e31 .normal (asCons l32 fun v33 l34 => asInt .i64 v33 fun i35 => asCons l34 fun v36 l37 => asInt .i64 v36 fun i38 => asNil l37 (bif (i38 == 0) then (.ret .ret [(.int .i64 i35), (.int .i64 i35), (.int .i64 i38)]) else (.ret .normal [(.int .i64 i4), (.int .i64 i35), (.int .i64 i38)]))) (.fail)

noncomputable def T59k3 : Ex → List Value → Pg :=
  fun e39 l40 => sw e39 .ret (asCons l40 fun v41 l42 => asInt .i64 v41 fun i43 => asCons l42 fun v44 l45 => asInt .i64 v44 fun i46 => asCons l45 fun v47 l48 => asInt .i64 v47 fun i49 => asNil l48 (.ret .ret [(.int .i64 i43), (.int .i64 i46), (.int .i64 i49)])) (sw e39 .normal (asCons l40 fun v50 l51 => asInt .i64 v50 fun i52 => asCons l51 fun v53 l54 => asInt .i64 v53 fun i55 => asCons l54 fun v56 l57 => asInt .i64 v56 fun i58 => asNil l57 (.ret .normal [(.int .i64 i52), (.int .i64 i55), (.int .i64 i58)])) (.fail))

noncomputable def T59b0 (s0 : ByteArray) : List Value → Pg :=
  fun l1 => asCons l1 fun v2 l3 => asInt .i64 v2 fun i4 => asCons l3 fun v5 l6 => asInt .i64 v5 fun i7 => asCons l6 fun v8 l9 => asInt .i64 v8 fun i10 => asNil l9 (bif (decide (i7 < ((s0.size : Nat) : Int))) then (.join (.join (grd (((decide (0 ≤ i7)) && (decide (i7 ≤ ((s0.size : Nat) : Int)))) && (decide (((s0.size : Nat) : Int) ≤ ((s0.size : Nat) : Int)))) (.call 58 [(.string (s0.extract (Int.toNat i7) s0.size)), (.string (bs [40, 42]))] fun v11 => asBool v11 fun b12 => .join (bif b12 then (.ret .normal [(.int .i64 (wi64 (i7 + 2))), (.int .i64 (wi64 (i10 + 1)))]) else (grd (((decide (0 ≤ i7)) && (decide (i7 ≤ ((s0.size : Nat) : Int)))) && (decide (((s0.size : Nat) : Int) ≤ ((s0.size : Nat) : Int)))) (.call 58 [(.string (s0.extract (Int.toNat i7) s0.size)), (.string (bs [42, 41]))] fun v13 => asBool v13 fun b14 => .join (bif b14 then (.ret .normal [(.int .i64 (wi64 (i7 + 2))), (.int .i64 (wi64 (i10 - 1)))]) else (.ret .normal [(.int .i64 (wi64 (i7 + 1))), (.int .i64 i10)])) (T59k0)))) (T59k1))) (T59k2 i4)) (T59k3)) else (.ret (.exit 0) [(.int .i64 i4), (.int .i64 i7), (.int .i64 i10)]))

noncomputable def T59k4 : Ex → List Value → Pg :=
  fun e59 l60 => sw e59 (.exit 0) (asCons l60 fun v61 l62 => asInt .i64 v61 fun i63 => asCons l62 fun v64 l65 => asInt .i64 v64 fun i66 => asCons l65 fun v67 l68 => asInt .i64 v67 fun i69 => asNil l68 (.ret .ret [(.int .i64 0)])) (sw e59 .ret (asCons l60 fun v70 l71 => asInt .i64 v70 fun i72 => asCons l71 fun v73 l74 => asInt .i64 v73 fun i75 => asCons l74 fun v76 l77 => asInt .i64 v76 fun i78 => asNil l77 (.ret .ret [(.int .i64 i72)])) (.fail))

/-- hindsight/lex.remark -/
noncomputable def T59 (s0 : ByteArray) : Pg :=
  .loop [(.int .i64 0), (.int .i64 0), (.int .i64 0)] (T59b0 s0) (T59k4)
theorem T59_eq (s0 : ByteArray) : progOf PROG false 59 [(.string s0)] = T59 s0 := by kernel_rfl


noncomputable def T60k0 (s0 : ByteArray) : Ex → List Value → Pg :=
  fun e1 l2 => sw e1 .normal (asCons l2 fun v3 l4 => asBool v3 fun b5 => asNil l4 (bif b5 then (grd (decide (0 < ((s0.size : Nat) : Int))) (.ret .ret [(.tuple #[(.int .i32 (wi32 (byteAt s0 0))), (.int .i64 1)])])) else (.call 81 [(.string s0)] fun v6 => asTuple v6 fun l7 => asCons l7 fun v8 l9 => asInt .i32 v8 fun i10 => asCons l9 fun v11 l12 => asInt .i64 v11 fun i13 => asNil l12 (.ret .ret [(.tuple #[(.int .i32 i10), (.int .i64 i13)])])))) (.fail)

/-- unicode/utf8.DecodeRuneInString -/
noncomputable def T60 (s0 : ByteArray) : Pg :=
  .join (bif (!(s0.toList == (bs []).toList)) == true then (grd (decide (0 < ((s0.size : Nat) : Int))) (.ret .normal [(.bool (decide ((byteAt s0 0) < 128)))])) else (.ret .normal [(.bool false)])) (T60k0 s0)
theorem T60_eq (s0 : ByteArray) : progOf PROG false 60 [(.string s0)] = T60 s0 := by kernel_rfl


noncomputable def T61k0 : Ex → List Value → Pg :=
  fun e21 l22 => sw e21 .normal (asNil l22 (.ret .normal [])) (.fail)

noncomputable def T61k1 : Ex → List Value → Pg :=
  fun e23 l24 => sw e23 .normal (asNil l24 (.ret .normal [])) (.fail)

noncomputable def T61k2 (a8 : Addr) (a3 : Addr) : Ex → List Value → Pg :=
  fun e25 l26 => sw e25 .normal (asNil l26 (.act (ldN 4 a8) fun v27 => asAgg v27 fun l28 => asCons l28 fun v29 l30 => asInt .i64 v29 fun i31 => asCons l30 fun v32 l33 => asStr v32 fun s34 => asCons l33 fun v35 l36 => asInt .i64 v35 fun i37 => asCons l36 fun v38 l39 => asInt .i64 v38 fun i40 => asNil l39 (.act (stC a3 [(.int .i64 i31), (.string s34), (.int .i64 i37), (.int .i64 i40)]) fun v41 => asTuple v41 fun l42 => asNil l42 (.act (ldN 4 a3) fun v43 => .ret .ret [v43])))) (.fail)

/-- hindsight/lex.named -/
noncomputable def T61 (s0 : ByteArray) : Pg :=
  .act (newC [(.int .i64 0), (.string (bs [])), (.int .i64 0), (.int .i64 0)]) fun v1 => asPtr v1 fun p2 => asSome p2 fun a3 => .call 56 [(.string s0), (.func (.func 82) #[] #[])] fun v4 => asInt .i64 v4 fun i5 => grd ((decide (0 ≤ i5)) && (decide (i5 ≤ ((s0.size : Nat) : Int)))) (.act (newC [(.int .i64 0), (.string (bs [])), (.int .i64 0), (.int .i64 0)]) fun v6 => asPtr v6 fun p7 => asSome p7 fun a8 => .act (stC a8 [(.int .i64 2), (.string (s0.extract 0 (Int.toNat i5))), (.int .i64 0), (.int .i64 0)]) fun v9 => asTuple v9 fun l10 => asNil l10 (.join (.call 11 [(.string s0)] fun v11 => asBool v11 fun b12 => .join (bif b12 then (.act (stC (aadd a8 0) [(.int .i64 3)]) fun v13 => asTuple v13 fun l14 => asNil l14 (.ret .normal [])) else (.act (ld1 (aadd a8 1)) fun v15 => asStr v15 fun s16 => .call 83 [(.string s16)] fun v17 => asBool v17 fun b18 => .join (bif b18 then (.act (stC (aadd a8 0) [(.int .i64 4)]) fun v19 => asTuple v19 fun l20 => asNil l20 (.ret .normal [])) else (.ret .normal [])) (T61k0))) (T61k1)) (T61k2 a8 a3)))
theorem T61_eq (s0 : ByteArray) : progOf PROG false 61 [(.string s0)] = T61 s0 := by kernel_rfl


/-- hindsight/lex.word$1 -/
noncomputable def T62 (i0 : Int) : Pg :=
  .call 10 [(.int .i32 i0)] fun v1 => asInt .i64 v1 fun i2 => .ret .ret [(.bool (i2 == 2))]
theorem T62_eq (i0 : Int) : progOf PROG false 62 [(.int .i32 i0)] = T62 i0 := by kernel_rfl


noncomputable def T63k0 : Ex → List Value → Pg :=
  fun e17 l18 => sw e17 .ret (asCons l18 fun v19 l20 => asInt .i64 v19 fun i21 => asCons l20 fun v22 l23 => asBool v22 fun b24 => asCons l23 fun v25 l26 => asInt .i64 v25 fun i27 => asNil l26 (.ret .ret [(.int .i64 i21), (.bool b24), (.int .i64 i27)])) (sw e17 .normal (asCons l18 fun v28 l29 => asInt .i64 v28 fun i30 => asCons l29 fun v31 l32 => asBool v31 fun b33 => asCons l32 fun v34 l35 => asInt .i64 v34 fun i36 => asNil l35 (.ret .normal [(.int .i64 i30), (.bool b33), (.int .i64 i36)])) (.fail))

noncomputable def T63b0 (a3 : Addr) : List Value → Pg :=
  fun l4 => asCons l4 fun v5 l6 => asInt .i64 v5 fun i7 => asCons l6 fun v8 l9 => asBool v8 fun b10 => asCons l9 fun v11 l12 => asInt .i64 v11 fun i13 => asNil l12 (.act (nxt (some a3)) fun v14 => asNx v14 (fun i15 i16 => .join (bif (decide (i7 > (wi64 (Int.tdiv (wi64 (4611686018427387903 - (wi64 (wi32 (i16 - 48))))) 10)))) then (.ret .ret [(.int .i64 i7), (.bool false), (.int .i64 0)]) else (.ret .normal [(.int .i64 (wi64 ((wi64 (10 * i7)) + (wi64 (wi32 (i16 - 48)))))), (.bool b10), (.int .i64 i13)])) (T63k0)) (.ret (.exit 0) [(.int .i64 i7), (.bool b10), (.int .i64 i13)]))

noncomputable def T63k1 : Ex → List Value → Pg :=
  fun e37 l38 => sw e37 (.exit 0) (asCons l38 fun v39 l40 => asInt .i64 v39 fun i41 => asCons l40 fun v42 l43 => asBool v42 fun b44 => asCons l43 fun v45 l46 => asInt .i64 v45 fun i47 => asNil l46 (.ret .ret [(.tuple #[(.int .i64 i41), (.bool true)])])) (sw e37 .ret (asCons l38 fun v48 l49 => asInt .i64 v48 fun i50 => asCons l49 fun v51 l52 => asBool v51 fun b53 => asCons l52 fun v54 l55 => asInt .i64 v54 fun i56 => asNil l55 (.ret .ret [(.tuple #[(.int .i64 i56), (.bool b53)])])) (.fail))

/-- hindsight/lex.Value -/
noncomputable def T63 (s0 : ByteArray) : Pg :=
  .act (rng s0) fun v1 => asPtr v1 fun p2 => asSome p2 fun a3 => .loop [(.int .i64 0), (.bool false), (.int .i64 0)] (T63b0 a3) (T63k1)
theorem T63_eq (s0 : ByteArray) : progOf PROG false 63 [(.string s0)] = T63 s0 := by kernel_rfl


noncomputable def T64k0 (i11 : Int) : Ex → List Value → Pg :=
  fun e19 l20 => sw e19 .ret (asNil l20 (.ret .ret [(.int .i64 i11)])) (sw e19 .normal (asNil l20 (.ret .normal [(.int .i64 (wi64 (i11 + 1)))])) (.fail))

noncomputable def T64b0 (n6 : Nat) (p5 : (Option Addr)) (s0 : ByteArray) (a3 : Addr) : List Value → Pg :=
  fun l8 => asCons l8 fun v9 l10 => asInt .i64 v9 fun i11 => asNil l10 (bif (decide (i11 < ((n6 : Nat) : Int))) then (.join (asSome p5 fun a12 => grd ((decide (0 ≤ i11)) && (decide (i11 < ((n6 : Nat) : Int)))) (.act (ld1 (aadd a12 ((Int.toNat i11) * 1))) fun v13 => asStr v13 fun s14 => .call 58 [(.string s0), (.string s14)] fun v15 => asBool v15 fun b16 => bif b16 then (.act (stC a3 [(.int .i64 5), (.string s14), (.int .i64 0), (.int .i64 0)]) fun v17 => asTuple v17 fun l18 => asNil l18 (.ret .ret [])) else (.ret .normal []))) (T64k0 i11)) else (.ret (.exit 0) [(.int .i64 i11)]))

noncomputable def T64k1 (a3 : Addr) (s0 : ByteArray) : Ex → List Value → Pg :=
  fun e26 l27 => sw e26 .normal (asCons l27 fun v28 l29 => asBool v28 fun b30 => asNil l29 (bif b30 then (.act (stC a3 [(.int .i64 0), (.string (bs [])), (.int .i64 0), (.int .i64 0)]) fun v31 => asTuple v31 fun l32 => asNil l32 (.act (ldN 4 a3) fun v33 => .ret .ret [v33])) else (grd (decide (1 ≤ ((s0.size : Nat) : Int))) (.act (stC a3 [(.int .i64 5), (.string (s0.extract 0 1)), (.int .i64 0), (.int .i64 0)]) fun v34 => asTuple v34 fun l35 => asNil l35 (.act (ldN 4 a3) fun v36 => .ret .ret [v36]))))) (.fail)

noncomputable def T64k2 (s0 : ByteArray) (a3 : Addr) : Ex → List Value → Pg :=
  fun e21 l22 => sw e21 (.exit 0) (asCons l22 fun v23 l24 => asInt .i64 v23 fun i25 => asNil l24 (.join (grd (decide (0 < ((s0.size : Nat) : Int))) (bif ((byteAt s0 0) == 62) == false then (grd (decide (0 < ((s0.size : Nat) : Int))) (.ret .normal [(.bool ((byteAt s0 0) == 58))])) else (.ret .normal [(.bool true)]))) (T64k1 a3 s0))) (sw e21 .ret (asCons l22 fun v37 l38 => asInt .i64 v37 fun i39 => asNil l38 (.act (ldN 4 a3) fun v40 => .ret .ret [v40])) (.fail))

/-- hindsight/lex.marked -/
noncomputable def T64 (s0 : ByteArray) : Pg :=
  .act (newC [(.int .i64 0), (.string (bs [])), (.int .i64 0), (.int .i64 0)]) fun v1 => asPtr v1 fun p2 => asSome p2 fun a3 => .act (bdSl 1 2 [(.string (bs [58, 61])), (.string (bs [45, 62]))]) fun v4 => asSlice v4 fun p5 n6 n7 => .loop [(.int .i64 0)] (T64b0 n6 p5 s0 a3) (T64k2 s0 a3)
theorem T64_eq (s0 : ByteArray) : progOf PROG false 64 [(.string s0)] = T64 s0 := by kernel_rfl


noncomputable def T80k0 : Ex → List Value → Pg :=
  fun e2 l3 => sw e2 .normal (asCons l3 fun v4 l5 => asBool v4 fun b6 => asNil l5 (.ret .ret [(.bool b6)])) (.fail)

/-- internal/stringslite.HasPrefix -/
noncomputable def T80 (s0 : ByteArray) (s1 : ByteArray) : Pg :=
  .join (bif (decide (((s0.size : Nat) : Int) ≥ ((s1.size : Nat) : Int))) == true then (grd (decide (((s1.size : Nat) : Int) ≤ ((s0.size : Nat) : Int))) (.ret .normal [(.bool ((s0.extract 0 s1.size).toList == s1.toList))])) else (.ret .normal [(.bool false)])) (T80k0)
theorem T80_eq (s0 : ByteArray) (s1 : ByteArray) : progOf PROG false 80 [(.string s0), (.string s1)] = T80 s0 s1 := by kernel_rfl


noncomputable def T81k0 (i2 : Int) (s0 : ByteArray) : Ex → List Value → Pg :=
  fun e20 l21 => sw e20 .normal (asCons l21 fun v22 l23 => asBool v22 fun b24 => asNil l23 (bif b24 then (.ret .ret [(.tuple #[(.int .i32 65533), (.int .i64 1)])]) else (bif (decide ((wi64 (andI .u8 i2 7)) ≤ 2)) then (.ret .ret [(.tuple #[(.int .i32 (orI .i32 (shlI .i32 (wi32 (andI .u8 (byteAt s0 0) 31)) 6) (wi32 (andI .u8 (byteAt s0 1) 63)))), (.int .i64 2)])]) else (grd (decide (2 < ((s0.size : Nat) : Int))) (bif ((decide ((byteAt s0 2) < 128)) || (decide (191 < (byteAt s0 2)))) then (.ret .ret [(.tuple #[(.int .i32 65533), (.int .i64 1)])]) else (bif (decide ((wi64 (andI .u8 i2 7)) ≤ 3)) then (.ret .ret [(.tuple #[(.int .i32 (orI .i32 (orI .i32 (shlI .i32 (wi32 (andI .u8 (byteAt s0 0) 15)) 12) (shlI .i32 (wi32 (andI .u8 (byteAt s0 1) 63)) 6)) (wi32 (andI .u8 (byteAt s0 2) 63)))), (.int .i64 3)])]) else (grd (decide (3 < ((s0.size : Nat) : Int))) (bif ((decide ((byteAt s0 3) < 128)) || (decide (191 < (byteAt s0 3)))) then (.ret .ret [(.tuple #[(.int .i32 65533), (.int .i64 1)])]) else (.ret .ret [(.tuple #[(.int .i32 (orI .i32 (orI .i32 (orI .i32 (shlI .i32 (wi32 (andI .u8 (byteAt s0 0) 7)) 18) (shlI .i32 (wi32 (andI .u8 (byteAt s0 1) 63)) 12)) (shlI .i32 (wi32 (andI .u8 (byteAt s0 2) 63)) 6)) (wi32 (andI .u8 (byteAt s0 3) 63)))), (.int .i64 4)])]))))))))) (.fail)

/-- unicode/utf8.decodeRuneInStringSlow -/
noncomputable def T81 (s0 : ByteArray) : Pg :=
  bif (decide (((s0.size : Nat) : Int) < 1)) then (.ret .ret [(.tuple #[(.int .i32 65533), (.int .i64 0)])]) else (grd (decide (0 < ((s0.size : Nat) : Int))) (grd ((decide (0 ≤ (byteAt s0 0))) && (decide ((byteAt s0 0) < 256))) (.act (ld1 (aadd ⟨3, 0, none⟩ ((Int.toNat (byteAt s0 0)) * 1))) fun v1 => asInt .u8 v1 fun i2 => bif (decide (i2 ≥ 240)) then (grd (decide (0 < ((s0.size : Nat) : Int))) (.ret .ret [(.tuple #[(.int .i32 (orI .i32 (andNotI .i32 (wi32 (byteAt s0 0)) (shrI .i32 (shlI .i32 (wi32 i2) 31) 31)) (andI .i32 65533 (shrI .i32 (shlI .i32 (wi32 i2) 31) 31)))), (.int .i64 1)])])) else (grd ((decide (0 ≤ (shrI .u8 i2 4))) && (decide ((shrI .u8 i2 4) < 16))) (.act (ldN 2 (aadd ⟨4, 0, none⟩ ((Int.toNat (shrI .u8 i2 4)) * 2))) fun v3 => asAgg v3 fun l4 => asCons l4 fun v5 l6 => asInt .u8 v5 fun i7 => asCons l6 fun v8 l9 => asInt .u8 v8 fun i10 => asNil l9 (.act (newC [(.int .u8 0), (.int .u8 0)]) fun v11 => asPtr v11 fun p12 => asSome p12 fun a13 => .act (stC a13 [(.int .u8 i7), (.int .u8 i10)]) fun v14 => asTuple v14 fun l15 => asNil l15 (bif (decide (((s0.size : Nat) : Int) < (wi64 (andI .u8 i2 7)))) then (.ret .ret [(.tuple #[(.int .i32 65533), (.int .i64 1)])]) else (grd (decide (1 < ((s0.size : Nat) : Int))) (.join (.act (ld1 (aadd a13 0)) fun v16 => asInt .u8 v16 fun i17 => bif (decide ((byteAt s0 1) < i17)) == false then (.act (ld1 (aadd a13 1)) fun v18 => asInt .u8 v18 fun i19 => .ret .normal [(.bool (decide (i19 < (byteAt s0 1))))]) else (.ret .normal [(.bool true)])) (T81k0 i2 s0))))))))))
theorem T81_eq (s0 : ByteArray) : progOf PROG false 81 [(.string s0)] = T81 s0 := by kernel_rfl


/-- hindsight/lex.named$1 -/
noncomputable def T82 (i0 : Int) : Pg :=
  .call 10 [(.int .i32 i0)] fun v1 => asInt .i64 v1 fun i2 => .ret .ret [(.bool ((i2 == 1) || (i2 == 2)))]
theorem T82_eq (i0 : Int) : progOf PROG false 82 [(.int .i32 i0)] = T82 i0 := by kernel_rfl


noncomputable def T83k0 : Ex → List Value → Pg :=
  fun e1 l2 => sw e1 .normal (asCons l2 fun v3 l4 => asBool v3 fun b5 => asNil l4 (.ret .normal [(.bool b5)])) (.fail)

noncomputable def T83k1 : Ex → List Value → Pg :=
  fun e6 l7 => sw e6 .normal (asCons l7 fun v8 l9 => asBool v8 fun b10 => asNil l9 (.ret .normal [(.bool b10)])) (.fail)

noncomputable def T83k2 : Ex → List Value → Pg :=
  fun e11 l12 => sw e11 .normal (asCons l12 fun v13 l14 => asBool v13 fun b15 => asNil l14 (.ret .normal [(.bool b15)])) (.fail)

noncomputable def T83k3 : Ex → List Value → Pg :=
  fun e16 l17 => sw e16 .normal (asCons l17 fun v18 l19 => asBool v18 fun b20 => asNil l19 (.ret .normal [(.bool b20)])) (.fail)

noncomputable def T83k4 : Ex → List Value → Pg :=
  fun e21 l22 => sw e21 .normal (asCons l22 fun v23 l24 => asBool v23 fun b25 => asNil l24 (.ret .normal [(.bool b25)])) (.fail)

noncomputable def T83k5 : Ex → List Value → Pg :=
  fun e26 l27 => sw e26 .normal (asCons l27 fun v28 l29 => asBool v28 fun b30 => asNil l29 (.ret .normal [(.bool b30)])) (.fail)

noncomputable def T83k6 : Ex → List Value → Pg :=
  fun e31 l32 => sw e31 .normal (asCons l32 fun v33 l34 => asBool v33 fun b35 => asNil l34 (.ret .normal [(.bool b35)])) (.fail)

noncomputable def T83k7 : Ex → List Value → Pg :=
  fun e36 l37 => sw e36 .normal (asCons l37 fun v38 l39 => asBool v38 fun b40 => asNil l39 (.ret .normal [(.bool b40)])) (.fail)

noncomputable def T83k8 : Ex → List Value → Pg :=
  fun e41 l42 => sw e41 .normal (asCons l42 fun v43 l44 => asBool v43 fun b45 => asNil l44 (.ret .normal [(.bool b45)])) (.fail)

noncomputable def T83k9 : Ex → List Value → Pg :=
  fun e46 l47 => sw e46 .normal (asCons l47 fun v48 l49 => asBool v48 fun b50 => asNil l49 (.ret .normal [(.bool b50)])) (.fail)

noncomputable def T83k10 : Ex → List Value → Pg :=
  fun e51 l52 => sw e51 .normal (asCons l52 fun v53 l54 => asBool v53 fun b55 => asNil l54 (.ret .normal [(.bool b55)])) (.fail)

noncomputable def T83k11 : Ex → List Value → Pg :=
  fun e56 l57 => sw e56 .normal (asCons l57 fun v58 l59 => asBool v58 fun b60 => asNil l59 (.ret .normal [(.bool b60)])) (.fail)

noncomputable def T83k12 : Ex → List Value → Pg :=
  fun e61 l62 => sw e61 .normal (asCons l62 fun v63 l64 => asBool v63 fun b65 => asNil l64 (.ret .normal [(.bool b65)])) (.fail)

noncomputable def T83k13 : Ex → List Value → Pg :=
  fun e66 l67 => sw e66 .normal (asCons l67 fun v68 l69 => asBool v68 fun b70 => asNil l69 (.ret .normal [(.bool b70)])) (.fail)

noncomputable def T83k14 : Ex → List Value → Pg :=
  fun e71 l72 => sw e71 .normal (asCons l72 fun v73 l74 => asBool v73 fun b75 => asNil l74 (.ret .normal [(.bool b75)])) (.fail)

noncomputable def T83k15 : Ex → List Value → Pg :=
  fun e76 l77 => sw e76 .normal (asCons l77 fun v78 l79 => asBool v78 fun b80 => asNil l79 (.ret .normal [(.bool b80)])) (.fail)

noncomputable def T83k16 : Ex → List Value → Pg :=
  fun e81 l82 => sw e81 .normal (asCons l82 fun v83 l84 => asBool v83 fun b85 => asNil l84 (.ret .normal [(.bool b85)])) (.fail)

noncomputable def T83k17 : Ex → List Value → Pg :=
  fun e86 l87 => sw e86 .normal (asCons l87 fun v88 l89 => asBool v88 fun b90 => asNil l89 (bif b90 then (.ret .ret [(.bool true)]) else (.ret .normal [(.bool false)]))) (.fail)

noncomputable def T83k18 : Ex → List Value → Pg :=
  fun e91 l92 => sw e91 .ret (asCons l92 fun v93 l94 => asBool v93 fun b95 => asNil l94 (.ret .ret [(.bool b95)])) (sw e91 .normal (asCons l92 fun v96 l97 => asBool v96 fun b98 => asNil l97 (.ret .ret [(.bool false)])) (.fail))

/-- hindsight/lex.IsKey -/
noncomputable def T83 (s0 : ByteArray) : Pg :=
  .join (.join (bif (s0.toList == (bs [116, 121, 112, 101]).toList) then (.ret .normal [(.bool (s0.toList == (bs [116, 121, 112, 101]).toList))]) else (.join (bif (s0.toList == (bs [111, 102]).toList) then (.ret .normal [(.bool (s0.toList == (bs [111, 102]).toList))]) else (.join (bif (s0.toList == (bs [108, 101, 116]).toList) then (.ret .normal [(.bool (s0.toList == (bs [108, 101, 116]).toList))]) else (.join (bif (s0.toList == (bs [114, 101, 99]).toList) then (.ret .normal [(.bool (s0.toList == (bs [114, 101, 99]).toList))]) else (.join (bif (s0.toList == (bs [105, 110]).toList) then (.ret .normal [(.bool (s0.toList == (bs [105, 110]).toList))]) else (.join (bif (s0.toList == (bs [102, 117, 110]).toList) then (.ret .normal [(.bool (s0.toList == (bs [102, 117, 110]).toList))]) else (.join (bif (s0.toList == (bs [105, 102]).toList) then (.ret .normal [(.bool (s0.toList == (bs [105, 102]).toList))]) else (.join (bif (s0.toList == (bs [116, 104, 101, 110]).toList) then (.ret .normal [(.bool (s0.toList == (bs [116, 104, 101, 110]).toList))]) else (.join (bif (s0.toList == (bs [101, 108, 115, 101]).toList) then (.ret .normal [(.bool (s0.toList == (bs [101, 108, 115, 101]).toList))]) else (.join (bif (s0.toList == (bs [109, 97, 116, 99, 104]).toList) then (.ret .normal [(.bool (s0.toList == (bs [109, 97, 116, 99, 104]).toList))]) else (.join (bif (s0.toList == (bs [119, 105, 116, 104]).toList) then (.ret .normal [(.bool (s0.toList == (bs [119, 105, 116, 104]).toList))]) else (.join (bif (s0.toList == (bs [101, 110, 100]).toList) then (.ret .normal [(.bool (s0.toList == (bs [101, 110, 100]).toList))]) else (.join (bif (s0.toList == (bs [114, 101, 102]).toList) then (.ret .normal [(.bool (s0.toList == (bs [114, 101, 102]).toList))]) else (.join (bif (s0.toList == (bs [112, 114, 105, 110, 116]).toList) then (.ret .normal [(.bool (s0.toList == (bs [112, 114, 105, 110, 116]).toList))]) else (.join (bif (s0.toList == (bs [114, 101, 97, 100]).toList) then (.ret .normal [(.bool (s0.toList == (bs [114, 101, 97, 100]).toList))]) else (.join (bif (s0.toList == (bs [114, 97, 105, 115, 101]).toList) then (.ret .normal [(.bool (s0.toList == (bs [114, 97, 105, 115, 101]).toList))]) else (.join (bif (s0.toList == (bs [116, 114, 121]).toList) then (.ret .normal [(.bool (s0.toList == (bs [116, 114, 121]).toList))]) else (.join (bif (s0.toList == (bs [116, 114, 117, 101]).toList) then (.ret .normal [(.bool (s0.toList == (bs [116, 114, 117, 101]).toList))]) else (.ret .normal [(.bool (s0.toList == (bs [102, 97, 108, 115, 101]).toList))])) (T83k0))) (T83k1))) (T83k2))) (T83k3))) (T83k4))) (T83k5))) (T83k6))) (T83k7))) (T83k8))) (T83k9))) (T83k10))) (T83k11))) (T83k12))) (T83k13))) (T83k14))) (T83k15))) (T83k16))) (T83k17)) (T83k18)
theorem T83_eq (s0 : ByteArray) : progOf PROG false 83 [(.string s0)] = T83 s0 := by kernel_rfl

noncomputable def A4 (args : List Value) : Option Pg := some (progOf PROG false 4 args)
theorem A4_ok : ∀ args p, A4 args = some p → progOf PROG false 4 args = p := fun args p h => Option.some.inj h
noncomputable def A10 : List Value → Option Pg
  | [(.int .i32 i0)] => some (T10 i0)
  | _ => none
theorem A10_ok : ∀ args p, A10 args = some p → progOf PROG false 10 args = p := by
  intro args p h
  unfold A10 at h
  split at h
  · cases h; exact T10_eq _
  · cases h
noncomputable def A11 : List Value → Option Pg
  | [(.string s0)] => some (T11 s0)
  | _ => none
theorem A11_ok : ∀ args p, A11 args = some p → progOf PROG false 11 args = p := by
  intro args p h
  unfold A11 at h
  split at h
  · cases h; exact T11_eq _
  · cases h
noncomputable def A13 : List Value → Option Pg
  | [] => some (T13)
  | _ => none
theorem A13_ok : ∀ args p, A13 args = some p → progOf PROG false 13 args = p := by
  intro args p h
  unfold A13 at h
  split at h
  · cases h; exact T13_eq 
  · cases h
noncomputable def A14 : List Value → Option Pg
  | [(.string s0)] => some (T14 s0)
  | _ => none
theorem A14_ok : ∀ args p, A14 args = some p → progOf PROG false 14 args = p := by
  intro args p h
  unfold A14 at h
  split at h
  · cases h; exact T14_eq _
  · cases h
noncomputable def A35 : List Value → Option Pg
  | [(.string s0)] => some (T35 s0)
  | _ => none
theorem A35_ok : ∀ args p, A35 args = some p → progOf PROG false 35 args = p := by
  intro args p h
  unfold A35 at h
  split at h
  · cases h; exact T35_eq _
  · cases h
noncomputable def A36 : List Value → Option Pg
  | [(.string s0)] => some (T36 s0)
  | _ => none
theorem A36_ok : ∀ args p, A36 args = some p → progOf PROG false 36 args = p := by
  intro args p h
  unfold A36 at h
  split at h
  · cases h; exact T36_eq _
  · cases h
noncomputable def A56 : List Value → Option Pg
  | [(.string s0), v1] => some (T56 s0 v1)
  | _ => none
theorem A56_ok : ∀ args p, A56 args = some p → progOf PROG false 56 args = p := by
  intro args p h
  unfold A56 at h
  split at h
  · cases h; exact T56_eq _ _
  · cases h
noncomputable def A57 : List Value → Option Pg
  | [(.int .i32 i0)] => some (T57 i0)
  | _ => none
theorem A57_ok : ∀ args p, A57 args = some p → progOf PROG false 57 args = p := by
  intro args p h
  unfold A57 at h
  split at h
  · cases h; exact T57_eq _
  · cases h
noncomputable def A58 : List Value → Option Pg
  | [(.string s0), (.string s1)] => some (T58 s0 s1)
  | _ => none
theorem A58_ok : ∀ args p, A58 args = some p → progOf PROG false 58 args = p := by
  intro args p h
  unfold A58 at h
  split at h
  · cases h; exact T58_eq _ _
  · cases h
noncomputable def A59 : List Value → Option Pg
  | [(.string s0)] => some (T59 s0)
  | _ => none
theorem A59_ok : ∀ args p, A59 args = some p → progOf PROG false 59 args = p := by
  intro args p h
  unfold A59 at h
  split at h
  · cases h; exact T59_eq _
  · cases h
noncomputable def A60 : List Value → Option Pg
  | [(.string s0)] => some (T60 s0)
  | _ => none
theorem A60_ok : ∀ args p, A60 args = some p → progOf PROG false 60 args = p := by
  intro args p h
  unfold A60 at h
  split at h
  · cases h; exact T60_eq _
  · cases h
noncomputable def A61 : List Value → Option Pg
  | [(.string s0)] => some (T61 s0)
  | _ => none
theorem A61_ok : ∀ args p, A61 args = some p → progOf PROG false 61 args = p := by
  intro args p h
  unfold A61 at h
  split at h
  · cases h; exact T61_eq _
  · cases h
noncomputable def A62 : List Value → Option Pg
  | [(.int .i32 i0)] => some (T62 i0)
  | _ => none
theorem A62_ok : ∀ args p, A62 args = some p → progOf PROG false 62 args = p := by
  intro args p h
  unfold A62 at h
  split at h
  · cases h; exact T62_eq _
  · cases h
noncomputable def A63 : List Value → Option Pg
  | [(.string s0)] => some (T63 s0)
  | _ => none
theorem A63_ok : ∀ args p, A63 args = some p → progOf PROG false 63 args = p := by
  intro args p h
  unfold A63 at h
  split at h
  · cases h; exact T63_eq _
  · cases h
noncomputable def A64 : List Value → Option Pg
  | [(.string s0)] => some (T64 s0)
  | _ => none
theorem A64_ok : ∀ args p, A64 args = some p → progOf PROG false 64 args = p := by
  intro args p h
  unfold A64 at h
  split at h
  · cases h; exact T64_eq _
  · cases h
noncomputable def A80 : List Value → Option Pg
  | [(.string s0), (.string s1)] => some (T80 s0 s1)
  | _ => none
theorem A80_ok : ∀ args p, A80 args = some p → progOf PROG false 80 args = p := by
  intro args p h
  unfold A80 at h
  split at h
  · cases h; exact T80_eq _ _
  · cases h
noncomputable def A81 : List Value → Option Pg
  | [(.string s0)] => some (T81 s0)
  | _ => none
theorem A81_ok : ∀ args p, A81 args = some p → progOf PROG false 81 args = p := by
  intro args p h
  unfold A81 at h
  split at h
  · cases h; exact T81_eq _
  · cases h
noncomputable def A82 : List Value → Option Pg
  | [(.int .i32 i0)] => some (T82 i0)
  | _ => none
theorem A82_ok : ∀ args p, A82 args = some p → progOf PROG false 82 args = p := by
  intro args p h
  unfold A82 at h
  split at h
  · cases h; exact T82_eq _
  · cases h
noncomputable def A83 : List Value → Option Pg
  | [(.string s0)] => some (T83 s0)
  | _ => none
theorem A83_ok : ∀ args p, A83 args = some p → progOf PROG false 83 args = p := by
  intro args p h
  unfold A83 at h
  split at h
  · cases h; exact T83_eq _
  · cases h
noncomputable def TAB : Tab := (.low 58 (.low 14 (.low 10 (.one 4 A4 (.one 10 A10 .nil)) (.one 11 A11 (.one 13 A13 (.one 14 A14 .nil)))) (.low 36 (.one 35 A35 (.one 36 A36 .nil)) (.one 56 A56 (.one 57 A57 (.one 58 A58 .nil))))) (.low 63 (.low 60 (.one 59 A59 (.one 60 A60 .nil)) (.one 61 A61 (.one 62 A62 (.one 63 A63 .nil)))) (.low 80 (.one 64 A64 (.one 80 A80 .nil)) (.one 81 A81 (.one 82 A82 (.one 83 A83 .nil))))))
theorem TAB_ok : TabOK PROG TAB := (.low (.low (.low (.one A4_ok (.one A10_ok .nil)) (.one A11_ok (.one A13_ok (.one A14_ok .nil)))) (.low (.one A35_ok (.one A36_ok .nil)) (.one A56_ok (.one A57_ok (.one A58_ok .nil))))) (.low (.low (.one A59_ok (.one A60_ok .nil)) (.one A61_ok (.one A62_ok (.one A63_ok .nil)))) (.low (.one A64_ok (.one A80_ok .nil)) (.one A81_ok (.one A82_ok (.one A83_ok .nil))))))

end Go.Pg
