/- The trees of the functions that the law reaches, written out by program; each is shown to be the function's own; then their table. -/
import Derived.Test.YtbhkeboldklodaaDoorProg
import Derived.KernelRfl
import Derived.Test.YtbhkeboldklodaaDoorPg3
namespace Go.Pg
open Go.Proofs
set_option linter.unusedVariables false
noncomputable abbrev PROG : Program := Tryd.prog

noncomputable def T7k0 : Ex → List Value → Pg :=
  fun e14 l15 => sw e14 .normal (asCons l15 fun v16 l17 => asBool v16 fun b18 => asNil l17 (.ret .ret [(.bool b18)])) (.fail)

/-- hindsight/hindsightlaw1.awake -/
noncomputable def T7 : Pg :=
  .call 8 [(.string (bs [97, 10, 98, 99])), (.int .i64 3)] fun v0 => asTuple v0 fun l1 => asCons l1 fun v2 l3 => asInt .i64 v2 fun i4 => asCons l3 fun v5 l6 => asInt .i64 v5 fun i7 => asNil l6 (.join (bif ((i4 == 2) && (i7 == 2)) == true then (.call 10 [(.int .i32 97)] fun v8 => asInt .i64 v8 fun i9 => bif (i9 == 1) == true then (.call 10 [(.int .i32 40)] fun v10 => asInt .i64 v10 fun i11 => bif (i11 == 4) == true then (.call 12 [(.string (bs [195, 169, 120]))] fun v12 => asInt .i64 v12 fun i13 => .ret .normal [(.bool (i13 == 2))]) else (.ret .normal [(.bool false)])) else (.ret .normal [(.bool false)])) else (.ret .normal [(.bool false)])) (T7k0))
theorem T7_eq : progOf PROG false 7 [] = T7 := by kernel_rfl


noncomputable def T8k0 : Ex → List Value → Pg :=
  fun e15 l16 => sw e15 .normal (asCons l16 fun v17 l18 => asInt .i64 v17 fun i19 => asCons l18 fun v20 l21 => asInt .i64 v20 fun i22 => asNil l21 (.ret .normal [(.int .i64 i22), (.int .i64 i19)])) (.fail)

noncomputable def T8k1 : Ex → List Value → Pg :=
  fun e23 l24 => sw e23 (.exit 0) (asCons l24 fun v25 l26 => asInt .i64 v25 fun i27 => asCons l26 fun v28 l29 => asInt .i64 v28 fun i30 => asNil l29 (.ret (.exit 0) [(.int .i64 i27), (.int .i64 i30)])) (sw e23 .normal (asCons l24 fun v31 l32 => asInt .i64 v31 fun i33 => asCons l32 fun v34 l35 => asInt .i64 v34 fun i36 => asNil l35 (.ret .normal [(.int .i64 i33), (.int .i64 i36)])) (.fail))

noncomputable def T8b0 (a4 : Addr) (i1 : Int) (s0 : ByteArray) : List Value → Pg :=
  fun l5 => asCons l5 fun v6 l7 => asInt .i64 v6 fun i8 => asCons l7 fun v9 l10 => asInt .i64 v9 fun i11 => asNil l10 (.act (nxt (some a4)) fun v12 => asNx v12 (fun i13 i14 => .join (bif (decide (i13 ≥ (minV (maxV i1 0) ((s0.size : Nat) : Int)))) then (.ret (.exit 0) [(.int .i64 i8), (.int .i64 i11)]) else (.join (bif (i14 == 10) then (.ret .normal [(.int .i64 1), (.int .i64 (wi64 (i8 + 1)))]) else (.ret .normal [(.int .i64 (wi64 (i11 + 1))), (.int .i64 i8)])) (T8k0))) (T8k1)) (.ret (.exit 0) [(.int .i64 i8), (.int .i64 i11)]))

noncomputable def T8k2 : Ex → List Value → Pg :=
  fun e37 l38 => sw e37 (.exit 0) (asCons l38 fun v39 l40 => asInt .i64 v39 fun i41 => asCons l40 fun v42 l43 => asInt .i64 v42 fun i44 => asNil l43 (.ret .ret [(.tuple #[(.int .i64 i41), (.int .i64 i44)])])) (.fail)

/-- hindsight/chars.Pos -/
noncomputable def T8 (s0 : ByteArray) (i1 : Int) : Pg :=
  .act (rng s0) fun v2 => asPtr v2 fun p3 => asSome p3 fun a4 => .loop [(.int .i64 1), (.int .i64 1)] (T8b0 a4 i1 s0) (T8k2)
theorem T8_eq (s0 : ByteArray) (i1 : Int) : progOf PROG false 8 [(.string s0), (.int .i64 i1)] = T8 s0 i1 := by kernel_rfl


noncomputable def T9k0 (p3 : (Option Addr)) (i1 : Int) (n4 : Nat) : Ex → List Value → Pg :=
  fun e6 l7 => sw e6 .normal (asCons l7 fun v8 l9 => asBool v8 fun b10 => asNil l9 (bif b10 then (.ret .ret [(.tuple #[(.string (bs [])), (.bool false)])]) else (asSome p3 fun a11 => grd ((decide (0 ≤ (wi64 (i1 - 1)))) && (decide ((wi64 (i1 - 1)) < ((n4 : Nat) : Int)))) (.act (ld1 (aadd a11 ((Int.toNat (wi64 (i1 - 1))) * 1))) fun v12 => asStr v12 fun s13 => .ret .ret [(.tuple #[(.string s13), (.bool true)])])))) (.fail)

/-- hindsight/chars.Line -/
noncomputable def T9 (s0 : ByteArray) (i1 : Int) : Pg :=
  .call 32 [(.string s0), (.string (bs [10]))] fun v2 => asSlice v2 fun p3 n4 n5 => .join (bif (decide (i1 < 1)) == false then (.ret .normal [(.bool (decide (i1 > ((n4 : Nat) : Int))))]) else (.ret .normal [(.bool true)])) (T9k0 p3 i1 n4)
theorem T9_eq (s0 : ByteArray) (i1 : Int) : progOf PROG false 9 [(.string s0), (.int .i64 i1)] = T9 s0 i1 := by kernel_rfl


noncomputable def T10k0 (i0 : Int) : Ex → List Value → Pg :=
  fun e3 l4 => sw e3 .normal (asCons l4 fun v5 l6 => asBool v5 fun b7 => asNil l6 (bif b7 then (.ret .ret [(.int .i64 1)]) else (bif ((decide (i0 ≥ 48)) && (decide (i0 ≤ 57))) then (.ret .ret [(.int .i64 2)]) else (.ret .normal [(.int .i64 0)])))) (.fail)

noncomputable def T10k1 : Ex → List Value → Pg :=
  fun e16 l17 => sw e16 .normal (asCons l17 fun v18 l19 => asBool v18 fun b20 => asNil l19 (.ret .normal [(.bool b20)])) (.fail)

noncomputable def T10k2 : Ex → List Value → Pg :=
  fun e21 l22 => sw e21 .normal (asCons l22 fun v23 l24 => asBool v23 fun b25 => asNil l24 (.ret .normal [(.bool b25)])) (.fail)

noncomputable def T10k3 : Ex → List Value → Pg :=
  fun e31 l32 => sw e31 .normal (asCons l32 fun v33 l34 => asBool v33 fun b35 => asNil l34 (.ret .normal [(.bool b35)])) (.fail)

noncomputable def T10k4 : Ex → List Value → Pg :=
  fun e36 l37 => sw e36 .normal (asCons l37 fun v38 l39 => asBool v38 fun b40 => asNil l39 (.ret .normal [(.bool b40)])) (.fail)

noncomputable def T10k5 : Ex → List Value → Pg :=
  fun e41 l42 => sw e41 .normal (asCons l42 fun v43 l44 => asBool v43 fun b45 => asNil l44 (.ret .normal [(.bool b45)])) (.fail)

noncomputable def T10k6 : Ex → List Value → Pg :=
  fun e46 l47 => sw e46 .normal (asCons l47 fun v48 l49 => asBool v48 fun b50 => asNil l49 (.ret .normal [(.bool b50)])) (.fail)

noncomputable def T10k7 : Ex → List Value → Pg :=
  fun e51 l52 => sw e51 .normal (asCons l52 fun v53 l54 => asBool v53 fun b55 => asNil l54 (.ret .normal [(.bool b55)])) (.fail)

noncomputable def T10k8 : Ex → List Value → Pg :=
  fun e56 l57 => sw e56 .normal (asCons l57 fun v58 l59 => asBool v58 fun b60 => asNil l59 (.ret .normal [(.bool b60)])) (.fail)

noncomputable def T10k9 : Ex → List Value → Pg :=
  fun e61 l62 => sw e61 .normal (asCons l62 fun v63 l64 => asBool v63 fun b65 => asNil l64 (.ret .normal [(.bool b65)])) (.fail)

noncomputable def T10k10 : Ex → List Value → Pg :=
  fun e66 l67 => sw e66 .normal (asCons l67 fun v68 l69 => asBool v68 fun b70 => asNil l69 (.ret .normal [(.bool b70)])) (.fail)

noncomputable def T10k11 : Ex → List Value → Pg :=
  fun e71 l72 => sw e71 .normal (asCons l72 fun v73 l74 => asBool v73 fun b75 => asNil l74 (.ret .normal [(.bool b75)])) (.fail)

noncomputable def T10k12 : Ex → List Value → Pg :=
  fun e76 l77 => sw e76 .normal (asCons l77 fun v78 l79 => asBool v78 fun b80 => asNil l79 (.ret .normal [(.bool b80)])) (.fail)

noncomputable def T10k13 : Ex → List Value → Pg :=
  fun e81 l82 => sw e81 .normal (asCons l82 fun v83 l84 => asBool v83 fun b85 => asNil l84 (.ret .normal [(.bool b85)])) (.fail)

noncomputable def T10k14 (i15 : Int) : Ex → List Value → Pg :=
  fun e86 l87 => sw e86 .normal (asCons l87 fun v88 l89 => asBool v88 fun b90 => asNil l89 (bif b90 then (.ret .ret [(.int .i64 4)]) else (.ret .normal [(.int .i64 i15)]))) (.fail)

noncomputable def T10k15 (i0 : Int) (i15 : Int) : Ex → List Value → Pg :=
  fun e26 l27 => sw e26 .normal (asCons l27 fun v28 l29 => asBool v28 fun b30 => asNil l29 (bif b30 then (.ret .ret [(.int .i64 3)]) else (.join (bif (i0 == 40) then (.ret .normal [(.bool (i0 == 40))]) else (.join (bif (i0 == 41) then (.ret .normal [(.bool (i0 == 41))]) else (.join (bif (i0 == 44) then (.ret .normal [(.bool (i0 == 44))]) else (.join (bif (i0 == 59) then (.ret .normal [(.bool (i0 == 59))]) else (.join (bif (i0 == 61) then (.ret .normal [(.bool (i0 == 61))]) else (.join (bif (i0 == 60) then (.ret .normal [(.bool (i0 == 60))]) else (.join (bif (i0 == 62) then (.ret .normal [(.bool (i0 == 62))]) else (.join (bif (i0 == 43) then (.ret .normal [(.bool (i0 == 43))]) else (.join (bif (i0 == 45) then (.ret .normal [(.bool (i0 == 45))]) else (.join (bif (i0 == 42) then (.ret .normal [(.bool (i0 == 42))]) else (.join (bif (i0 == 124) then (.ret .normal [(.bool (i0 == 124))]) else (.join (bif (i0 == 33) then (.ret .normal [(.bool (i0 == 33))]) else (.ret .normal [(.bool (i0 == 58))])) (T10k3))) (T10k4))) (T10k5))) (T10k6))) (T10k7))) (T10k8))) (T10k9))) (T10k10))) (T10k11))) (T10k12))) (T10k13))) (T10k14 i15)))) (.fail)

noncomputable def T10k16 : Ex → List Value → Pg :=
  fun e91 l92 => sw e91 .ret (asCons l92 fun v93 l94 => asInt .i64 v93 fun i95 => asNil l94 (.ret .ret [(.int .i64 i95)])) (sw e91 .normal (asCons l92 fun v96 l97 => asInt .i64 v96 fun i98 => asNil l97 (.ret .ret [(.int .i64 0)])) (.fail))

noncomputable def T10k17 (i0 : Int) : Ex → List Value → Pg :=
  fun e8 l9 => sw e8 .ret (asCons l9 fun v10 l11 => asInt .i64 v10 fun i12 => asNil l11 (.ret .ret [(.int .i64 i12)])) (sw e8 .normal (asCons l9 fun v13 l14 => asInt .i64 v13 fun i15 => asNil l14 (.join (.join (bif (i0 == 32) then (.ret .normal [(.bool (i0 == 32))]) else (.join (bif (i0 == 9) then (.ret .normal [(.bool (i0 == 9))]) else (.join (bif (i0 == 10) then (.ret .normal [(.bool (i0 == 10))]) else (.ret .normal [(.bool (i0 == 13))])) (T10k1))) (T10k2))) (T10k15 i0 i15)) (T10k16))) (.fail))

/-- hindsight/chars.Class -/
noncomputable def T10 (i0 : Int) : Pg :=
  .join (.join (bif ((i0 == 95) || (i0 == 39)) == false then (.call 33 [(.int .i32 i0)] fun v1 => asBool v1 fun b2 => .ret .normal [(.bool b2)]) else (.ret .normal [(.bool true)])) (T10k0 i0)) (T10k17 i0)
theorem T10_eq (i0 : Int) : progOf PROG false 10 [(.int .i32 i0)] = T10 i0 := by kernel_rfl


noncomputable def T11k0 : Ex → List Value → Pg :=
  fun e13 l14 => sw e13 .ret (asCons l14 fun v15 l16 => asBool v15 fun b17 => asNil l16 (.ret .ret [(.bool b17)])) (.fail)

noncomputable def T11b0 (a3 : Addr) : List Value → Pg :=
  fun l4 => asCons l4 fun v5 l6 => asBool v5 fun b7 => asNil l6 (.act (nxt (some a3)) fun v8 => asNx v8 (fun i9 i10 => .join (.call 34 [(.int .i32 i10)] fun v11 => asBool v11 fun b12 => .ret .ret [(.bool b12)]) (T11k0)) (.ret (.exit 0) [(.bool b7)]))

noncomputable def T11k1 : Ex → List Value → Pg :=
  fun e18 l19 => sw e18 (.exit 0) (asCons l19 fun v20 l21 => asBool v20 fun b22 => asNil l21 (.ret .ret [(.bool false)])) (sw e18 .ret (asCons l19 fun v23 l24 => asBool v23 fun b25 => asNil l24 (.ret .ret [(.bool b25)])) (.fail))

/-- hindsight/chars.Upper -/
noncomputable def T11 (s0 : ByteArray) : Pg :=
  .act (rng s0) fun v1 => asPtr v1 fun p2 => asSome p2 fun a3 => .loop [(.bool false)] (T11b0 a3) (T11k1)
theorem T11_eq (s0 : ByteArray) : progOf PROG false 11 [(.string s0)] = T11 s0 := by kernel_rfl


noncomputable def T12k0 : Ex → List Value → Pg :=
  fun e11 l12 => sw e11 .normal (asCons l12 fun v13 l14 => asInt .i64 v13 fun i15 => asNil l14 (.ret .normal [(.int .i64 i15)])) (.fail)

noncomputable def T12b0 (a3 : Addr) : List Value → Pg :=
  fun l4 => asCons l4 fun v5 l6 => asInt .i64 v5 fun i7 => asNil l6 (.act (nxt (some a3)) fun v8 => asNx v8 (fun i9 i10 => .join (.ret .normal [(.int .i64 (wi64 (i7 + 1)))]) (T12k0)) (.ret (.exit 0) [(.int .i64 i7)]))

noncomputable def T12k1 : Ex → List Value → Pg :=
  fun e16 l17 => sw e16 (.exit 0) (asCons l17 fun v18 l19 => asInt .i64 v18 fun i20 => asNil l19 (.ret .ret [(.int .i64 i20)])) (.fail)

/-- hindsight/chars.Runes -/
noncomputable def T12 (s0 : ByteArray) : Pg :=
  .act (rng s0) fun v1 => asPtr v1 fun p2 => asSome p2 fun a3 => .loop [(.int .i64 0)] (T12b0 a3) (T12k1)
theorem T12_eq (s0 : ByteArray) : progOf PROG false 12 [(.string s0)] = T12 s0 := by kernel_rfl


/-- strings.Split -/
noncomputable def T32 (s0 : ByteArray) (s1 : ByteArray) : Pg :=
  .call 54 [(.string s0), (.string s1), (.int .i64 0), (.int .i64 (-1))] fun v2 => asSlice v2 fun p3 n4 n5 => .ret .ret [(.slice p3 n4 n5)]
theorem T32_eq (s0 : ByteArray) (s1 : ByteArray) : progOf PROG false 32 [(.string s0), (.string s1)] = T32 s0 s1 := by kernel_rfl


noncomputable def T54k0 : Ex → List Value → Pg :=
  fun e31 l32 => sw e31 (.exit 0) (asCons l32 fun v33 l34 => asInt .i64 v33 fun i35 => asCons l34 fun v36 l37 => asStr v36 fun s38 => asNil l37 (.ret (.exit 0) [(.int .i64 i35), (.string s38)])) (sw e31 .normal (asCons l32 fun v39 l40 => asInt .i64 v39 fun i41 => asCons l40 fun v42 l43 => asStr v42 fun s44 => asNil l43 (.ret .normal [(.int .i64 i41), (.string s44)])) (.fail))

noncomputable def T54b0 (i14 : Int) (s0 : ByteArray) (s1 : ByteArray) (i2 : Int) (p16 : (Option Addr)) (n17 : Nat) : List Value → Pg :=
  fun l19 => asCons l19 fun v20 l21 => asInt .i64 v20 fun i22 => asCons l21 fun v23 l24 => asStr v23 fun s25 => asNil l24 (bif (decide (i22 < (wi64 ((minV i14 (wi64 (((s0.size : Nat) : Int) + 1))) - 1)))) then (.join (.call 77 [(.string s25), (.string s1)] fun v26 => asInt .i64 v26 fun i27 => bif (decide (i27 < 0)) then (.ret (.exit 0) [(.int .i64 i22), (.string s25)]) else (grd ((decide (0 ≤ (wi64 (i27 + i2)))) && (decide ((wi64 (i27 + i2)) ≤ ((s25.size : Nat) : Int)))) (asSome p16 fun a28 => grd ((decide (0 ≤ i22)) && (decide (i22 < ((n17 : Nat) : Int)))) (.act (stC (aadd a28 ((Int.toNat i22) * 1)) [(.string (s25.extract 0 (Int.toNat (wi64 (i27 + i2)))))]) fun v29 => asTuple v29 fun l30 => asNil l30 (grd (((decide (0 ≤ (wi64 (i27 + ((s1.size : Nat) : Int))))) && (decide ((wi64 (i27 + ((s1.size : Nat) : Int))) ≤ ((s25.size : Nat) : Int)))) && (decide (((s25.size : Nat) : Int) ≤ ((s25.size : Nat) : Int)))) (.ret .normal [(.int .i64 (wi64 (i22 + 1))), (.string (s25.extract (Int.toNat (wi64 (i27 + ((s1.size : Nat) : Int)))) s25.size))])))))) (T54k0)) else (.ret (.exit 0) [(.int .i64 i22), (.string s25)]))

noncomputable def T54k1 (p16 : (Option Addr)) (n17 : Nat) (n18 : Nat) : Ex → List Value → Pg :=
  fun e45 l46 => sw e45 (.exit 0) (asCons l46 fun v47 l48 => asInt .i64 v47 fun i49 => asCons l48 fun v50 l51 => asStr v50 fun s52 => asNil l51 (asSome p16 fun a53 => grd ((decide (0 ≤ i49)) && (decide (i49 < ((n17 : Nat) : Int)))) (.act (stC (aadd a53 ((Int.toNat i49) * 1)) [(.string s52)]) fun v54 => asTuple v54 fun l55 => asNil l55 (grd ((((decide (0 ≤ (wi64 (i49 + 1)))) && (decide ((wi64 (i49 + 1)) ≤ ((n18 : Nat) : Int)))) && (decide (((n18 : Nat) : Int) ≤ ((n18 : Nat) : Int)))) && ((mayCut p16 1) || true)) (.ret .ret [(.slice p16 (Int.toNat (wi64 (i49 + 1))) n18)]))))) (.fail)

noncomputable def T54k2 (s0 : ByteArray) (s1 : ByteArray) (i2 : Int) : Ex → List Value → Pg :=
  fun e10 l11 => sw e10 .normal (asCons l11 fun v12 l13 => asInt .i64 v12 fun i14 => asNil l13 (.act (mkSl 1 16 [(.string (bs []))] (minV i14 (wi64 (((s0.size : Nat) : Int) + 1))) (minV i14 (wi64 (((s0.size : Nat) : Int) + 1)))) fun v15 => asSlice v15 fun p16 n17 n18 => .loop [(.int .i64 0), (.string s0)] (T54b0 i14 s0 s1 i2 p16 n17) (T54k1 p16 n17 n18))) (.fail)

/-- strings.genSplit -/
noncomputable def T54 (s0 : ByteArray) (s1 : ByteArray) (i2 : Int) (i3 : Int) : Pg :=
  bif (i3 == 0) then (.ret .ret [(.slice none 0 0)]) else (bif (s1.toList == (bs []).toList) then (.call 75 [(.string s0), (.int .i64 i3)] fun v4 => asSlice v4 fun p5 n6 n7 => .ret .ret [(.slice p5 n6 n7)]) else (.join (bif (decide (i3 < 0)) then (.call 76 [(.string s0), (.string s1)] fun v8 => asInt .i64 v8 fun i9 => .ret .normal [(.int .i64 (wi64 (i9 + 1)))]) else (.ret .normal [(.int .i64 i3)])) (T54k2 s0 s1 i2)))
theorem T54_eq (s0 : ByteArray) (s1 : ByteArray) (i2 : Int) (i3 : Int) : progOf PROG false 54 [(.string s0), (.string s1), (.int .i64 i2), (.int .i64 i3)] = T54 s0 s1 i2 i3 := by kernel_rfl


noncomputable def T60k0 (s0 : ByteArray) : Ex → List Value → Pg :=
  fun e1 l2 => sw e1 .normal (asCons l2 fun v3 l4 => asBool v3 fun b5 => asNil l4 (bif b5 then (grd (decide (0 < ((s0.size : Nat) : Int))) (.ret .ret [(.tuple #[(.int .i32 (wi32 (byteAt s0 0))), (.int .i64 1)])])) else (.call 81 [(.string s0)] fun v6 => asTuple v6 fun l7 => asCons l7 fun v8 l9 => asInt .i32 v8 fun i10 => asCons l9 fun v11 l12 => asInt .i64 v11 fun i13 => asNil l12 (.ret .ret [(.tuple #[(.int .i32 i10), (.int .i64 i13)])])))) (.fail)

/-- unicode/utf8.DecodeRuneInString -/
noncomputable def T60 (s0 : ByteArray) : Pg :=
  .join (bif (!(s0.toList == (bs []).toList)) == true then (grd (decide (0 < ((s0.size : Nat) : Int))) (.ret .normal [(.bool (decide ((byteAt s0 0) < 128)))])) else (.ret .normal [(.bool false)])) (T60k0 s0)
theorem T60_eq (s0 : ByteArray) : progOf PROG false 60 [(.string s0)] = T60 s0 := by kernel_rfl


noncomputable def T75k0 (i16 : Int) : Ex → List Value → Pg :=
  fun e31 l32 => sw e31 .normal (asCons l32 fun v33 l34 => asStr v33 fun s35 => asNil l34 (.ret .normal [(.int .i64 (wi64 (i16 + 1))), (.string s35)])) (.fail)

noncomputable def T75b0 (i8 : Int) (p10 : (Option Addr)) (n11 : Nat) : List Value → Pg :=
  fun l13 => asCons l13 fun v14 l15 => asInt .i64 v14 fun i16 => asCons l15 fun v17 l18 => asStr v17 fun s19 => asNil l18 (bif (decide (i16 < (wi64 (i8 - 1)))) then (.join (.call 60 [(.string s19)] fun v20 => asTuple v20 fun l21 => asCons l21 fun v22 l23 => asInt .i32 v22 fun i24 => asCons l23 fun v25 l26 => asInt .i64 v25 fun i27 => asNil l26 (grd ((decide (0 ≤ i27)) && (decide (i27 ≤ ((s19.size : Nat) : Int)))) (asSome p10 fun a28 => grd ((decide (0 ≤ i16)) && (decide (i16 < ((n11 : Nat) : Int)))) (.act (stC (aadd a28 ((Int.toNat i16) * 1)) [(.string (s19.extract 0 (Int.toNat i27)))]) fun v29 => asTuple v29 fun l30 => asNil l30 (grd (((decide (0 ≤ i27)) && (decide (i27 ≤ ((s19.size : Nat) : Int)))) && (decide (((s19.size : Nat) : Int) ≤ ((s19.size : Nat) : Int)))) (.ret .normal [(.string (s19.extract (Int.toNat i27) s19.size))])))))) (T75k0 i16)) else (.ret (.exit 0) [(.int .i64 i16), (.string s19)]))

noncomputable def T75k1 (p10 : (Option Addr)) (n11 : Nat) (n12 : Nat) : Ex → List Value → Pg :=
  fun e47 l48 => sw e47 .normal (asNil l48 (.ret .ret [(.slice p10 n11 n12)])) (.fail)

noncomputable def T75k2 (i8 : Int) (p10 : (Option Addr)) (n11 : Nat) (n12 : Nat) : Ex → List Value → Pg :=
  fun e36 l37 => sw e36 (.exit 0) (asCons l37 fun v38 l39 => asInt .i64 v38 fun i40 => asCons l39 fun v41 l42 => asStr v41 fun s43 => asNil l42 (.join (bif (decide (i8 > 0)) then (asSome p10 fun a44 => grd ((decide (0 ≤ (wi64 (i8 - 1)))) && (decide ((wi64 (i8 - 1)) < ((n11 : Nat) : Int)))) (.act (stC (aadd a44 ((Int.toNat (wi64 (i8 - 1))) * 1)) [(.string s43)]) fun v45 => asTuple v45 fun l46 => asNil l46 (.ret .normal []))) else (.ret .normal [])) (T75k1 p10 n11 n12))) (.fail)

noncomputable def T75k3 (s0 : ByteArray) : Ex → List Value → Pg :=
  fun e4 l5 => sw e4 .normal (asCons l5 fun v6 l7 => asInt .i64 v6 fun i8 => asNil l7 (.act (mkSl 1 16 [(.string (bs []))] i8 i8) fun v9 => asSlice v9 fun p10 n11 n12 => .loop [(.int .i64 0), (.string s0)] (T75b0 i8 p10 n11) (T75k2 i8 p10 n11 n12))) (.fail)

/-- strings.explode -/
noncomputable def T75 (s0 : ByteArray) (i1 : Int) : Pg :=
  .call 90 [(.string s0)] fun v2 => asInt .i64 v2 fun i3 => .join (bif ((decide (i1 < 0)) || (decide (i1 > i3))) then (.ret .normal [(.int .i64 i3)]) else (.ret .normal [(.int .i64 i1)])) (T75k3 s0)
theorem T75_eq (s0 : ByteArray) (i1 : Int) : progOf PROG false 75 [(.string s0), (.int .i64 i1)] = T75 s0 i1 := by kernel_rfl


noncomputable def T76k0 : Ex → List Value → Pg :=
  fun e16 l17 => sw e16 .ret (asCons l17 fun v18 l19 => asStr v18 fun s20 => asCons l19 fun v21 l22 => asInt .i64 v21 fun i23 => asCons l22 fun v24 l25 => asInt .i64 v24 fun i26 => asNil l25 (.ret .ret [(.string s20), (.int .i64 i23), (.int .i64 i26)])) (sw e16 .normal (asCons l17 fun v27 l28 => asStr v27 fun s29 => asCons l28 fun v30 l31 => asInt .i64 v30 fun i32 => asCons l31 fun v33 l34 => asInt .i64 v33 fun i35 => asNil l34 (.ret .normal [(.string s29), (.int .i64 i32), (.int .i64 i35)])) (.fail))

noncomputable def T76b0 (s1 : ByteArray) : List Value → Pg :=
  fun l4 => asCons l4 fun v5 l6 => asStr v5 fun s7 => asCons l6 fun v8 l9 => asInt .i64 v8 fun i10 => asCons l9 fun v11 l12 => asInt .i64 v11 fun i13 => asNil l12 (.join (.call 77 [(.string s7), (.string s1)] fun v14 => asInt .i64 v14 fun i15 => bif (i15 == (-1)) then (.ret .ret [(.string s7), (.int .i64 i10), (.int .i64 i10)]) else (grd (((decide (0 ≤ (wi64 (i15 + ((s1.size : Nat) : Int))))) && (decide ((wi64 (i15 + ((s1.size : Nat) : Int))) ≤ ((s7.size : Nat) : Int)))) && (decide (((s7.size : Nat) : Int) ≤ ((s7.size : Nat) : Int)))) (.ret .normal [(.string (s7.extract (Int.toNat (wi64 (i15 + ((s1.size : Nat) : Int)))) s7.size)), (.int .i64 (wi64 (i10 + 1))), (.int .i64 i13)]))) (T76k0))

noncomputable def T76k1 : Ex → List Value → Pg :=
  fun e36 l37 => sw e36 .ret (asCons l37 fun v38 l39 => asStr v38 fun s40 => asCons l39 fun v41 l42 => asInt .i64 v41 fun i43 => asCons l42 fun v44 l45 => asInt .i64 v44 fun i46 => asNil l45 (.ret .ret [(.int .i64 i46)])) (.fail)

/-- strings.Count -/
noncomputable def T76 (s0 : ByteArray) (s1 : ByteArray) : Pg :=
  bif (((s1.size : Nat) : Int) == 0) then (.call 90 [(.string s0)] fun v2 => asInt .i64 v2 fun i3 => .ret .ret [(.int .i64 (wi64 (i3 + 1)))]) else (bif (((s1.size : Nat) : Int) == 1) then (grd (decide (0 < ((s1.size : Nat) : Int))) (.ret .ret [(.int .i64 (((Lib.countByte (s0).data.toList (Nat.toUInt8 (Int.toNat (byteAt s1 0)))) : Nat) : Int))])) else (.loop [(.string s0), (.int .i64 0), (.int .i64 0)] (T76b0 s1) (T76k1)))
theorem T76_eq (s0 : ByteArray) (s1 : ByteArray) : progOf PROG false 76 [(.string s0), (.string s1)] = T76 s0 s1 := by kernel_rfl


/-- strings.Index -/
noncomputable def T77 (s0 : ByteArray) (s1 : ByteArray) : Pg :=
  .call 92 [(.string s0), (.string s1)] fun v2 => asInt .i64 v2 fun i3 => .ret .ret [(.int .i64 i3)]
theorem T77_eq (s0 : ByteArray) (s1 : ByteArray) : progOf PROG false 77 [(.string s0), (.string s1)] = T77 s0 s1 := by kernel_rfl


noncomputable def T81k0 (i2 : Int) (s0 : ByteArray) : Ex → List Value → Pg :=
  fun e20 l21 => sw e20 .normal (asCons l21 fun v22 l23 => asBool v22 fun b24 => asNil l23 (bif b24 then (.ret .ret [(.tuple #[(.int .i32 65533), (.int .i64 1)])]) else (bif (decide ((wi64 (andI .u8 i2 7)) ≤ 2)) then (.ret .ret [(.tuple #[(.int .i32 (orI .i32 (shlI .i32 (wi32 (andI .u8 (byteAt s0 0) 31)) 6) (wi32 (andI .u8 (byteAt s0 1) 63)))), (.int .i64 2)])]) else (grd (decide (2 < ((s0.size : Nat) : Int))) (bif ((decide ((byteAt s0 2) < 128)) || (decide (191 < (byteAt s0 2)))) then (.ret .ret [(.tuple #[(.int .i32 65533), (.int .i64 1)])]) else (bif (decide ((wi64 (andI .u8 i2 7)) ≤ 3)) then (.ret .ret [(.tuple #[(.int .i32 (orI .i32 (orI .i32 (shlI .i32 (wi32 (andI .u8 (byteAt s0 0) 15)) 12) (shlI .i32 (wi32 (andI .u8 (byteAt s0 1) 63)) 6)) (wi32 (andI .u8 (byteAt s0 2) 63)))), (.int .i64 3)])]) else (grd (decide (3 < ((s0.size : Nat) : Int))) (bif ((decide ((byteAt s0 3) < 128)) || (decide (191 < (byteAt s0 3)))) then (.ret .ret [(.tuple #[(.int .i32 65533), (.int .i64 1)])]) else (.ret .ret [(.tuple #[(.int .i32 (orI .i32 (orI .i32 (orI .i32 (shlI .i32 (wi32 (andI .u8 (byteAt s0 0) 7)) 18) (shlI .i32 (wi32 (andI .u8 (byteAt s0 1) 63)) 12)) (shlI .i32 (wi32 (andI .u8 (byteAt s0 2) 63)) 6)) (wi32 (andI .u8 (byteAt s0 3) 63)))), (.int .i64 4)])]))))))))) (.fail)

/-- unicode/utf8.decodeRuneInStringSlow -/
noncomputable def T81 (s0 : ByteArray) : Pg :=
  bif (decide (((s0.size : Nat) : Int) < 1)) then (.ret .ret [(.tuple #[(.int .i32 65533), (.int .i64 0)])]) else (grd (decide (0 < ((s0.size : Nat) : Int))) (grd ((decide (0 ≤ (byteAt s0 0))) && (decide ((byteAt s0 0) < 256))) (.act (ld1 (aadd ⟨3, 0, none⟩ ((Int.toNat (byteAt s0 0)) * 1))) fun v1 => asInt .u8 v1 fun i2 => bif (decide (i2 ≥ 240)) then (grd (decide (0 < ((s0.size : Nat) : Int))) (.ret .ret [(.tuple #[(.int .i32 (orI .i32 (andNotI .i32 (wi32 (byteAt s0 0)) (shrI .i32 (shlI .i32 (wi32 i2) 31) 31)) (andI .i32 65533 (shrI .i32 (shlI .i32 (wi32 i2) 31) 31)))), (.int .i64 1)])])) else (grd ((decide (0 ≤ (shrI .u8 i2 4))) && (decide ((shrI .u8 i2 4) < 16))) (.act (ldN 2 (aadd ⟨4, 0, none⟩ ((Int.toNat (shrI .u8 i2 4)) * 2))) fun v3 => asAgg v3 fun l4 => asCons l4 fun v5 l6 => asInt .u8 v5 fun i7 => asCons l6 fun v8 l9 => asInt .u8 v8 fun i10 => asNil l9 (.act (newC [(.int .u8 0), (.int .u8 0)]) fun v11 => asPtr v11 fun p12 => asSome p12 fun a13 => .act (stC a13 [(.int .u8 i7), (.int .u8 i10)]) fun v14 => asTuple v14 fun l15 => asNil l15 (bif (decide (((s0.size : Nat) : Int) < (wi64 (andI .u8 i2 7)))) then (.ret .ret [(.tuple #[(.int .i32 65533), (.int .i64 1)])]) else (grd (decide (1 < ((s0.size : Nat) : Int))) (.join (.act (ld1 (aadd a13 0)) fun v16 => asInt .u8 v16 fun i17 => bif (decide ((byteAt s0 1) < i17)) == false then (.act (ld1 (aadd a13 1)) fun v18 => asInt .u8 v18 fun i19 => .ret .normal [(.bool (decide (i19 < (byteAt s0 1))))]) else (.ret .normal [(.bool true)])) (T81k0 i2 s0))))))))))
theorem T81_eq (s0 : ByteArray) : progOf PROG false 81 [(.string s0)] = T81 s0 := by kernel_rfl


noncomputable def T90k0 : Ex → List Value → Pg :=
  fun e11 l12 => sw e11 .normal (asCons l12 fun v13 l14 => asInt .i64 v13 fun i15 => asNil l14 (.ret .normal [(.int .i64 i15)])) (.fail)

noncomputable def T90b0 (a3 : Addr) : List Value → Pg :=
  fun l4 => asCons l4 fun v5 l6 => asInt .i64 v5 fun i7 => asNil l6 (.act (nxt (some a3)) fun v8 => asNx v8 (fun i9 i10 => .join (.ret .normal [(.int .i64 (wi64 (i7 + 1)))]) (T90k0)) (.ret (.exit 0) [(.int .i64 i7)]))

noncomputable def T90k1 : Ex → List Value → Pg :=
  fun e16 l17 => sw e16 (.exit 0) (asCons l17 fun v18 l19 => asInt .i64 v18 fun i20 => asNil l19 (.ret .ret [(.int .i64 i20)])) (.fail)

/-- unicode/utf8.RuneCountInString -/
noncomputable def T90 (s0 : ByteArray) : Pg :=
  .act (rng s0) fun v1 => asPtr v1 fun p2 => asSome p2 fun a3 => .loop [(.int .i64 0)] (T90b0 a3) (T90k1)
theorem T90_eq (s0 : ByteArray) : progOf PROG false 90 [(.string s0)] = T90 s0 := by kernel_rfl


noncomputable def T92k0 (s0 : ByteArray) (s1 : ByteArray) : Ex → List Value → Pg :=
  fun e6 l7 => sw e6 .normal (asCons l7 fun v8 l9 => asBool v8 fun b10 => asNil l9 (bif b10 then (.call 99 [(.string s0), (.string s1)] fun v11 => asInt .i64 v11 fun i12 => .ret .ret [(.int .i64 i12)]) else (.ret .normal [(.int .i64 0)]))) (.fail)

noncomputable def T92k1 (i43 : Int) (s0 : ByteArray) (s1 : ByteArray) (i24 : Int) (i46 : Int) : Ex → List Value → Pg :=
  fun e65 l66 => sw e65 .normal (asCons l66 fun v67 l68 => asBool v67 fun b69 => asNil l68 (bif b69 then (grd (((decide (0 ≤ (wi64 (i43 + 1)))) && (decide ((wi64 (i43 + 1)) ≤ ((s0.size : Nat) : Int)))) && (decide (((s0.size : Nat) : Int) ≤ ((s0.size : Nat) : Int)))) (.call 101 [(.string (s0.extract (Int.toNat (wi64 (i43 + 1))) s0.size)), (.string s1)] fun v70 => asInt .i64 v70 fun i71 => bif (decide (i71 < 0)) then (.ret .ret [(.int .i64 (wi64 (i24 + 1))), (.int .i64 (wi64 (i43 + 1))), (.int .i64 (-1))]) else (.ret .ret [(.int .i64 (wi64 (i24 + 1))), (.int .i64 (wi64 (i43 + 1))), (.int .i64 (wi64 ((wi64 (i43 + 1)) + i71)))]))) else (.ret .normal [(.int .i64 (wi64 (i24 + 1))), (.int .i64 (wi64 (i43 + 1))), (.int .i64 i46)]))) (.fail)

noncomputable def T92k2 (i43 : Int) (s0 : ByteArray) (s1 : ByteArray) (i24 : Int) (i46 : Int) : Ex → List Value → Pg :=
  fun e56 l57 => sw e56 .normal (asCons l57 fun v58 l59 => asBool v58 fun b60 => asNil l59 (bif b60 then (grd (((decide (0 ≤ (wi64 (i43 + 1)))) && (decide ((wi64 (i43 + 1)) ≤ ((s0.size : Nat) : Int)))) && (decide (((s0.size : Nat) : Int) ≤ ((s0.size : Nat) : Int)))) (.call 99 [(.string (s0.extract (Int.toNat (wi64 (i43 + 1))) s0.size)), (.string s1)] fun v61 => asInt .i64 v61 fun i62 => bif (decide (i62 ≥ 0)) then (.ret .ret [(.int .i64 (wi64 (i24 + 1))), (.int .i64 (wi64 (i43 + 1))), (.int .i64 (wi64 (i62 + (wi64 (i43 + 1)))))]) else (.ret .ret [(.int .i64 (wi64 (i24 + 1))), (.int .i64 (wi64 (i43 + 1))), (.int .i64 (-1))]))) else (.join (.act (ld1 ⟨6, 0, none⟩) fun v63 => asInt .i64 v63 fun i64 => bif (decide (((s1.size : Nat) : Int) > i64)) == true then (.ret .normal [(.bool ((decide ((wi64 (i24 + 1)) ≥ (wi64 (4 + (shrI .i64 (wi64 (i43 + 1)) 4))))) && (decide ((wi64 (i43 + 1)) < (wi64 ((wi64 (((s0.size : Nat) : Int) - ((s1.size : Nat) : Int))) + 1))))))]) else (.ret .normal [(.bool false)])) (T92k1 i43 s0 s1 i24 i46)))) (.fail)

noncomputable def T92k3 (i24 : Int) (i43 : Int) (s1 : ByteArray) (s0 : ByteArray) (i46 : Int) : Ex → List Value → Pg :=
  fun e47 l48 => sw e47 .normal (asCons l48 fun v49 l50 => asBool v49 fun b51 => asNil l50 (bif b51 then (.ret .ret [(.int .i64 i24), (.int .i64 i43), (.int .i64 i43)]) else (.join (.act (ld1 ⟨6, 0, none⟩) fun v52 => asInt .i64 v52 fun i53 => bif (decide (((s1.size : Nat) : Int) ≤ i53)) == true then (.call 100 [(.int .i64 (wi64 (i43 + 1)))] fun v54 => asInt .i64 v54 fun i55 => .ret .normal [(.bool (decide ((wi64 (i24 + 1)) > i55)))]) else (.ret .normal [(.bool false)])) (T92k2 i43 s0 s1 i24 i46)))) (.fail)

noncomputable def T92k4 (i24 : Int) (s0 : ByteArray) (s1 : ByteArray) : Ex → List Value → Pg :=
  fun e33 l34 => sw e33 .ret (asCons l34 fun v35 l36 => asInt .i64 v35 fun i37 => asCons l36 fun v38 l39 => asInt .i64 v38 fun i40 => asNil l39 (.ret .ret [(.int .i64 i24), (.int .i64 i37), (.int .i64 i40)])) (sw e33 .normal (asCons l34 fun v41 l42 => asInt .i64 v41 fun i43 => asCons l42 fun v44 l45 => asInt .i64 v44 fun i46 => asNil l45 (.join (grd ((decide (0 ≤ (wi64 (i43 + 1)))) && (decide ((wi64 (i43 + 1)) < ((s0.size : Nat) : Int)))) (bif ((byteAt s0 (Int.toNat (wi64 (i43 + 1)))) == (byteAt s1 1)) == true then (grd (((decide (0 ≤ i43)) && (decide (i43 ≤ (wi64 (i43 + ((s1.size : Nat) : Int)))))) && (decide ((wi64 (i43 + ((s1.size : Nat) : Int))) ≤ ((s0.size : Nat) : Int)))) (.ret .normal [(.bool ((s0.extract (Int.toNat i43) (Int.toNat (wi64 (i43 + ((s1.size : Nat) : Int))))).toList == s1.toList))])) else (.ret .normal [(.bool false)]))) (T92k3 i24 i43 s1 s0 i46))) (.fail))

noncomputable def T92k5 : Ex → List Value → Pg :=
  fun e72 l73 => sw e72 .ret (asCons l73 fun v74 l75 => asInt .i64 v74 fun i76 => asCons l75 fun v77 l78 => asInt .i64 v77 fun i79 => asCons l78 fun v80 l81 => asInt .i64 v80 fun i82 => asNil l81 (.ret .ret [(.int .i64 i76), (.int .i64 i79), (.int .i64 i82)])) (sw e72 .normal (asCons l73 fun v83 l84 => asInt .i64 v83 fun i85 => asCons l84 fun v86 l87 => asInt .i64 v86 fun i88 => asCons l87 fun v89 l90 => asInt .i64 v89 fun i91 => asNil l90 (.ret .normal [(.int .i64 i85), (.int .i64 i88), (.int .i64 i91)])) (.fail))

noncomputable def T92b0 (s0 : ByteArray) (s1 : ByteArray) : List Value → Pg :=
  fun l21 => asCons l21 fun v22 l23 => asInt .i64 v22 fun i24 => asCons l23 fun v25 l26 => asInt .i64 v25 fun i27 => asCons l26 fun v28 l29 => asInt .i64 v28 fun i30 => asNil l29 (bif (decide (i27 < (wi64 ((wi64 (((s0.size : Nat) : Int) - ((s1.size : Nat) : Int))) + 1)))) then (.join (grd ((decide (0 ≤ i27)) && (decide (i27 < ((s0.size : Nat) : Int)))) (.join (bif ((byteAt s0 (Int.toNat i27)) != (byteAt s1 0)) then (grd (((decide (0 ≤ (wi64 (i27 + 1)))) && (decide ((wi64 (i27 + 1)) ≤ (wi64 ((wi64 (((s0.size : Nat) : Int) - ((s1.size : Nat) : Int))) + 1))))) && (decide ((wi64 ((wi64 (((s0.size : Nat) : Int) - ((s1.size : Nat) : Int))) + 1)) ≤ ((s0.size : Nat) : Int)))) (.call 98 [(.string (s0.extract (Int.toNat (wi64 (i27 + 1))) (Int.toNat (wi64 ((wi64 (((s0.size : Nat) : Int) - ((s1.size : Nat) : Int))) + 1))))), (.int .u8 (byteAt s1 0))] fun v31 => asInt .i64 v31 fun i32 => bif (decide (i32 < 0)) then (.ret .ret [(.int .i64 i27), (.int .i64 (-1))]) else (.ret .normal [(.int .i64 (wi64 (i27 + (wi64 (i32 + 1))))), (.int .i64 i30)]))) else (.ret .normal [(.int .i64 i27), (.int .i64 i30)])) (T92k4 i24 s0 s1))) (T92k5)) else (.ret (.exit 1) [(.int .i64 i24), (.int .i64 i27), (.int .i64 i30)]))

noncomputable def T92k6 : Ex → List Value → Pg :=
  fun e92 l93 => sw e92 (.exit 1) (asCons l93 fun v94 l95 => asInt .i64 v94 fun i96 => asCons l95 fun v97 l98 => asInt .i64 v97 fun i99 => asCons l98 fun v100 l101 => asInt .i64 v100 fun i102 => asNil l101 (.ret .ret [(.int .i64 (-1))])) (sw e92 .ret (asCons l93 fun v103 l104 => asInt .i64 v103 fun i105 => asCons l104 fun v106 l107 => asInt .i64 v106 fun i108 => asCons l107 fun v109 l110 => asInt .i64 v109 fun i111 => asNil l110 (.ret .ret [(.int .i64 i111)])) (.fail))

noncomputable def T92k7 (s1 : ByteArray) (s0 : ByteArray) : Ex → List Value → Pg :=
  fun e13 l14 => sw e13 .ret (asCons l14 fun v15 l16 => asInt .i64 v15 fun i17 => asNil l16 (.ret .ret [(.int .i64 i17)])) (sw e13 .normal (asCons l14 fun v18 l19 => asInt .i64 v18 fun i20 => asNil l19 (grd (decide (0 < ((s1.size : Nat) : Int))) (grd (decide (1 < ((s1.size : Nat) : Int))) (.loop [(.int .i64 0), (.int .i64 0), (.int .i64 i20)] (T92b0 s0 s1) (T92k6))))) (.fail))

/-- internal/stringslite.Index -/
noncomputable def T92 (s0 : ByteArray) (s1 : ByteArray) : Pg :=
  .join (bif ((((s1.size : Nat) : Int) == 0) || (s1.toList == s0.toList)) then (.ret .ret [(.int .i64 0)]) else (bif (((s1.size : Nat) : Int) == 1) then (grd (decide (0 < ((s1.size : Nat) : Int))) (.call 98 [(.string s0), (.int .u8 (byteAt s1 0))] fun v2 => asInt .i64 v2 fun i3 => .ret .ret [(.int .i64 i3)])) else (bif (decide (((s1.size : Nat) : Int) ≥ ((s0.size : Nat) : Int))) then (.ret .ret [(.int .i64 (-1))]) else (.join (.act (ld1 ⟨6, 0, none⟩) fun v4 => asInt .i64 v4 fun i5 => bif (decide (((s1.size : Nat) : Int) ≤ i5)) == true then (.ret .normal [(.bool (decide (((s0.size : Nat) : Int) ≤ 64)))]) else (.ret .normal [(.bool false)])) (T92k0 s0 s1))))) (T92k7 s1 s0)
theorem T92_eq (s0 : ByteArray) (s1 : ByteArray) : progOf PROG false 92 [(.string s0), (.string s1)] = T92 s0 s1 := by kernel_rfl


/-- internal/stringslite.IndexByte -/
noncomputable def T98 (s0 : ByteArray) (i1 : Int) : Pg :=
  .ret .ret [(.int .i64 (Lib.indexByte (s0).data.toList (Nat.toUInt8 (Int.toNat i1))))]
theorem T98_eq (s0 : ByteArray) (i1 : Int) : progOf PROG false 98 [(.string s0), (.int .u8 i1)] = T98 s0 i1 := by kernel_rfl


/-- internal/bytealg.Cutover -/
noncomputable def T100 (i0 : Int) : Pg :=
  .ret .ret [(.int .i64 (wi64 (Int.tdiv (wi64 (i0 + 16)) 8)))]
theorem T100_eq (i0 : Int) : progOf PROG false 100 [(.int .i64 i0)] = T100 i0 := by kernel_rfl


noncomputable def T101k0 (i13 : Int) : Ex → List Value → Pg :=
  fun e17 l18 => sw e17 .normal (asCons l18 fun v19 l20 => asInt .u32 v19 fun i21 => asNil l20 (.ret .normal [(.int .i64 (wi64 (i13 + 1))), (.int .u32 i21)])) (.fail)

noncomputable def T101b0 (s1 : ByteArray) (s0 : ByteArray) : List Value → Pg :=
  fun l10 => asCons l10 fun v11 l12 => asInt .i64 v11 fun i13 => asCons l12 fun v14 l15 => asInt .u32 v14 fun i16 => asNil l15 (bif (decide (i13 < ((s1.size : Nat) : Int))) then (.join (grd ((decide (0 ≤ i13)) && (decide (i13 < ((s0.size : Nat) : Int)))) (.ret .normal [(.int .u32 (wu32 ((wu32 (i16 * 16777619)) + (wu32 (byteAt s0 (Int.toNat i13))))))])) (T101k0 i13)) else (.ret (.exit 0) [(.int .i64 i13), (.int .u32 i16)]))

noncomputable def T101k1 (i41 : Int) (s1 : ByteArray) (i44 : Int) (s0 : ByteArray) (i9 : Int) (i38 : Int) : Ex → List Value → Pg :=
  fun e45 l46 => sw e45 .normal (asCons l46 fun v47 l48 => asBool v47 fun b49 => asNil l48 (bif b49 then (.ret .ret [(.int .i64 (wi64 ((wi64 (i41 + 1)) - ((s1.size : Nat) : Int)))), (.int .i64 (wi64 (i41 + 1))), (.int .u32 (wu32 ((wu32 ((wu32 (i44 * 16777619)) + (wu32 (byteAt s0 (Int.toNat i41))))) - (wu32 (i9 * (wu32 (byteAt s0 (Int.toNat (wi64 (i41 - ((s1.size : Nat) : Int)))))))))))]) else (.ret .normal [(.int .i64 i38), (.int .i64 (wi64 (i41 + 1))), (.int .u32 (wu32 ((wu32 ((wu32 (i44 * 16777619)) + (wu32 (byteAt s0 (Int.toNat i41))))) - (wu32 (i9 * (wu32 (byteAt s0 (Int.toNat (wi64 (i41 - ((s1.size : Nat) : Int)))))))))))]))) (.fail)

noncomputable def T101k2 : Ex → List Value → Pg :=
  fun e50 l51 => sw e50 .ret (asCons l51 fun v52 l53 => asInt .i64 v52 fun i54 => asCons l53 fun v55 l56 => asInt .i64 v55 fun i57 => asCons l56 fun v58 l59 => asInt .u32 v58 fun i60 => asNil l59 (.ret .ret [(.int .i64 i54), (.int .i64 i57), (.int .u32 i60)])) (sw e50 .normal (asCons l51 fun v61 l62 => asInt .i64 v61 fun i63 => asCons l62 fun v64 l65 => asInt .i64 v64 fun i66 => asCons l65 fun v67 l68 => asInt .u32 v67 fun i69 => asNil l68 (.ret .normal [(.int .i64 i63), (.int .i64 i66), (.int .u32 i69)])) (.fail))

noncomputable def T101b1 (s0 : ByteArray) (s1 : ByteArray) (i9 : Int) (i6 : Int) : List Value → Pg :=
  fun l35 => asCons l35 fun v36 l37 => asInt .i64 v36 fun i38 => asCons l37 fun v39 l40 => asInt .i64 v39 fun i41 => asCons l40 fun v42 l43 => asInt .u32 v42 fun i44 => asNil l43 (bif (decide (i41 < ((s0.size : Nat) : Int))) then (.join (grd ((decide (0 ≤ i41)) && (decide (i41 < ((s0.size : Nat) : Int)))) (grd ((decide (0 ≤ (wi64 (i41 - ((s1.size : Nat) : Int))))) && (decide ((wi64 (i41 - ((s1.size : Nat) : Int))) < ((s0.size : Nat) : Int)))) (.join (bif ((wu32 ((wu32 ((wu32 (i44 * 16777619)) + (wu32 (byteAt s0 (Int.toNat i41))))) - (wu32 (i9 * (wu32 (byteAt s0 (Int.toNat (wi64 (i41 - ((s1.size : Nat) : Int)))))))))) == i6) == true then (grd (((decide (0 ≤ (wi64 ((wi64 (i41 + 1)) - ((s1.size : Nat) : Int))))) && (decide ((wi64 ((wi64 (i41 + 1)) - ((s1.size : Nat) : Int))) ≤ (wi64 (i41 + 1))))) && (decide ((wi64 (i41 + 1)) ≤ ((s0.size : Nat) : Int)))) (.ret .normal [(.bool ((s0.extract (Int.toNat (wi64 ((wi64 (i41 + 1)) - ((s1.size : Nat) : Int)))) (Int.toNat (wi64 (i41 + 1)))).toList == s1.toList))])) else (.ret .normal [(.bool false)])) (T101k1 i41 s1 i44 s0 i9 i38)))) (T101k2)) else (.ret (.exit 2) [(.int .i64 i38), (.int .i64 i41), (.int .u32 i44)]))

noncomputable def T101k3 : Ex → List Value → Pg :=
  fun e70 l71 => sw e70 (.exit 2) (asCons l71 fun v72 l73 => asInt .i64 v72 fun i74 => asCons l73 fun v75 l76 => asInt .i64 v75 fun i77 => asCons l76 fun v78 l79 => asInt .u32 v78 fun i80 => asNil l79 (.ret .ret [(.int .i64 (-1))])) (sw e70 .ret (asCons l71 fun v81 l82 => asInt .i64 v81 fun i83 => asCons l82 fun v84 l85 => asInt .i64 v84 fun i86 => asCons l85 fun v87 l88 => asInt .u32 v87 fun i89 => asNil l88 (.ret .ret [(.int .i64 i83)])) (.fail))

noncomputable def T101k4 (s1 : ByteArray) (i29 : Int) (s0 : ByteArray) (i9 : Int) (i6 : Int) : Ex → List Value → Pg :=
  fun e30 l31 => sw e30 .normal (asCons l31 fun v32 l33 => asBool v32 fun b34 => asNil l33 (bif b34 then (.ret .ret [(.int .i64 0)]) else (.loop [(.int .i64 0), (.int .i64 ((s1.size : Nat) : Int)), (.int .u32 i29)] (T101b1 s0 s1 i9 i6) (T101k3)))) (.fail)

noncomputable def T101k5 (i6 : Int) (s1 : ByteArray) (s0 : ByteArray) (i9 : Int) : Ex → List Value → Pg :=
  fun e22 l23 => sw e22 (.exit 0) (asCons l23 fun v24 l25 => asInt .i64 v24 fun i26 => asCons l25 fun v27 l28 => asInt .u32 v27 fun i29 => asNil l28 (.join (bif (i29 == i6) == true then (grd (decide (((s1.size : Nat) : Int) ≤ ((s0.size : Nat) : Int))) (.ret .normal [(.bool ((s0.extract 0 s1.size).toList == s1.toList))])) else (.ret .normal [(.bool false)])) (T101k4 s1 i29 s0 i9 i6))) (.fail)

/-- internal/bytealg.IndexRabinKarp[string] -/
noncomputable def T101 (s0 : ByteArray) (s1 : ByteArray) : Pg :=
  .call 105 [(.string s1)] fun v2 => asTuple v2 fun l3 => asCons l3 fun v4 l5 => asInt .u32 v4 fun i6 => asCons l5 fun v7 l8 => asInt .u32 v7 fun i9 => asNil l8 (.loop [(.int .i64 0), (.int .u32 0)] (T101b0 s1 s0) (T101k5 i6 s1 s0 i9))
theorem T101_eq (s0 : ByteArray) (s1 : ByteArray) : progOf PROG false 101 [(.string s0), (.string s1)] = T101 s0 s1 := by kernel_rfl


noncomputable def T105k0 (i4 : Int) : Ex → List Value → Pg :=
  fun e8 l9 => sw e8 .normal (asCons l9 fun v10 l11 => asInt .u32 v10 fun i12 => asNil l11 (.ret .normal [(.int .i64 (wi64 (i4 + 1))), (.int .u32 i12)])) (.fail)

noncomputable def T105b0 (s0 : ByteArray) : List Value → Pg :=
  fun l1 => asCons l1 fun v2 l3 => asInt .i64 v2 fun i4 => asCons l3 fun v5 l6 => asInt .u32 v5 fun i7 => asNil l6 (bif (decide (i4 < ((s0.size : Nat) : Int))) then (.join (grd ((decide (0 ≤ i4)) && (decide (i4 < ((s0.size : Nat) : Int)))) (.ret .normal [(.int .u32 (wu32 ((wu32 (i7 * 16777619)) + (wu32 (byteAt s0 (Int.toNat i4))))))])) (T105k0 i4)) else (.ret (.exit 0) [(.int .i64 i4), (.int .u32 i7)]))

noncomputable def T105k1 (i27 : Int) : Ex → List Value → Pg :=
  fun e31 l32 => sw e31 .normal (asCons l32 fun v33 l34 => asInt .u32 v33 fun i35 => asNil l34 (.ret .normal [(.int .u32 (wu32 (i27 * i27))), (.int .u32 i35)])) (.fail)

noncomputable def T105k2 (i24 : Int) : Ex → List Value → Pg :=
  fun e36 l37 => sw e36 .normal (asCons l37 fun v38 l39 => asInt .u32 v38 fun i40 => asCons l39 fun v41 l42 => asInt .u32 v41 fun i43 => asNil l42 (.ret .normal [(.int .i64 (shrI .i64 i24 1)), (.int .u32 i40), (.int .u32 i43)])) (.fail)

noncomputable def T105b1 : List Value → Pg :=
  fun l21 => asCons l21 fun v22 l23 => asInt .i64 v22 fun i24 => asCons l23 fun v25 l26 => asInt .u32 v25 fun i27 => asCons l26 fun v28 l29 => asInt .u32 v28 fun i30 => asNil l29 (bif (decide (i24 > 0)) then (.join (.join (bif ((andI .i64 i24 1) != 0) then (.ret .normal [(.int .u32 (wu32 (i30 * i27)))]) else (.ret .normal [(.int .u32 i30)])) (T105k1 i27)) (T105k2 i24)) else (.ret (.exit 2) [(.int .i64 i24), (.int .u32 i27), (.int .u32 i30)]))

noncomputable def T105k3 (i20 : Int) : Ex → List Value → Pg :=
  fun e44 l45 => sw e44 (.exit 2) (asCons l45 fun v46 l47 => asInt .i64 v46 fun i48 => asCons l47 fun v49 l50 => asInt .u32 v49 fun i51 => asCons l50 fun v52 l53 => asInt .u32 v52 fun i54 => asNil l53 (.ret .ret [(.tuple #[(.int .u32 i20), (.int .u32 i54)])])) (.fail)

noncomputable def T105k4 (s0 : ByteArray) : Ex → List Value → Pg :=
  fun e13 l14 => sw e13 (.exit 0) (asCons l14 fun v15 l16 => asInt .i64 v15 fun i17 => asCons l16 fun v18 l19 => asInt .u32 v18 fun i20 => asNil l19 (.loop [(.int .i64 ((s0.size : Nat) : Int)), (.int .u32 16777619), (.int .u32 1)] (T105b1) (T105k3 i20))) (.fail)

/-- internal/bytealg.hashStr[string] -/
noncomputable def T105 (s0 : ByteArray) : Pg :=
  .loop [(.int .i64 0), (.int .u32 0)] (T105b0 s0) (T105k4 s0)
theorem T105_eq (s0 : ByteArray) : progOf PROG false 105 [(.string s0)] = T105 s0 := by kernel_rfl

noncomputable def A3 (args : List Value) : Option Pg := some (progOf PROG false 3 args)
theorem A3_ok : ∀ args p, A3 args = some p → progOf PROG false 3 args = p := fun args p h => Option.some.inj h
noncomputable def A7 : List Value → Option Pg
  | [] => some (T7)
  | _ => none
theorem A7_ok : ∀ args p, A7 args = some p → progOf PROG false 7 args = p := by
  intro args p h
  unfold A7 at h
  split at h
  · cases h; exact T7_eq 
  · cases h
noncomputable def A8 : List Value → Option Pg
  | [(.string s0), (.int .i64 i1)] => some (T8 s0 i1)
  | _ => none
theorem A8_ok : ∀ args p, A8 args = some p → progOf PROG false 8 args = p := by
  intro args p h
  unfold A8 at h
  split at h
  · cases h; exact T8_eq _ _
  · cases h
noncomputable def A9 : List Value → Option Pg
  | [(.string s0), (.int .i64 i1)] => some (T9 s0 i1)
  | _ => none
theorem A9_ok : ∀ args p, A9 args = some p → progOf PROG false 9 args = p := by
  intro args p h
  unfold A9 at h
  split at h
  · cases h; exact T9_eq _ _
  · cases h
noncomputable def A10 : List Value → Option Pg
  | [(.int .i32 i0)] => some (T10 i0)
  | _ => none
theorem A10_ok : ∀ args p, A10 args = some p → progOf PROG false 10 args = p := by
  intro args p h
  unfold A10 at h
  split at h
  · cases h; exact T10_eq _
  · cases h
noncomputable def A11 : List Value → Option Pg
  | [(.string s0)] => some (T11 s0)
  | _ => none
theorem A11_ok : ∀ args p, A11 args = some p → progOf PROG false 11 args = p := by
  intro args p h
  unfold A11 at h
  split at h
  · cases h; exact T11_eq _
  · cases h
noncomputable def A12 : List Value → Option Pg
  | [(.string s0)] => some (T12 s0)
  | _ => none
theorem A12_ok : ∀ args p, A12 args = some p → progOf PROG false 12 args = p := by
  intro args p h
  unfold A12 at h
  split at h
  · cases h; exact T12_eq _
  · cases h
noncomputable def A32 : List Value → Option Pg
  | [(.string s0), (.string s1)] => some (T32 s0 s1)
  | _ => none
theorem A32_ok : ∀ args p, A32 args = some p → progOf PROG false 32 args = p := by
  intro args p h
  unfold A32 at h
  split at h
  · cases h; exact T32_eq _ _
  · cases h
noncomputable def A54 : List Value → Option Pg
  | [(.string s0), (.string s1), (.int .i64 i2), (.int .i64 i3)] => some (T54 s0 s1 i2 i3)
  | _ => none
theorem A54_ok : ∀ args p, A54 args = some p → progOf PROG false 54 args = p := by
  intro args p h
  unfold A54 at h
  split at h
  · cases h; exact T54_eq _ _ _ _
  · cases h
noncomputable def A60 : List Value → Option Pg
  | [(.string s0)] => some (T60 s0)
  | _ => none
theorem A60_ok : ∀ args p, A60 args = some p → progOf PROG false 60 args = p := by
  intro args p h
  unfold A60 at h
  split at h
  · cases h; exact T60_eq _
  · cases h
noncomputable def A75 : List Value → Option Pg
  | [(.string s0), (.int .i64 i1)] => some (T75 s0 i1)
  | _ => none
theorem A75_ok : ∀ args p, A75 args = some p → progOf PROG false 75 args = p := by
  intro args p h
  unfold A75 at h
  split at h
  · cases h; exact T75_eq _ _
  · cases h
noncomputable def A76 : List Value → Option Pg
  | [(.string s0), (.string s1)] => some (T76 s0 s1)
  | _ => none
theorem A76_ok : ∀ args p, A76 args = some p → progOf PROG false 76 args = p := by
  intro args p h
  unfold A76 at h
  split at h
  · cases h; exact T76_eq _ _
  · cases h
noncomputable def A77 : List Value → Option Pg
  | [(.string s0), (.string s1)] => some (T77 s0 s1)
  | _ => none
theorem A77_ok : ∀ args p, A77 args = some p → progOf PROG false 77 args = p := by
  intro args p h
  unfold A77 at h
  split at h
  · cases h; exact T77_eq _ _
  · cases h
noncomputable def A81 : List Value → Option Pg
  | [(.string s0)] => some (T81 s0)
  | _ => none
theorem A81_ok : ∀ args p, A81 args = some p → progOf PROG false 81 args = p := by
  intro args p h
  unfold A81 at h
  split at h
  · cases h; exact T81_eq _
  · cases h
noncomputable def A90 : List Value → Option Pg
  | [(.string s0)] => some (T90 s0)
  | _ => none
theorem A90_ok : ∀ args p, A90 args = some p → progOf PROG false 90 args = p := by
  intro args p h
  unfold A90 at h
  split at h
  · cases h; exact T90_eq _
  · cases h
noncomputable def A92 : List Value → Option Pg
  | [(.string s0), (.string s1)] => some (T92 s0 s1)
  | _ => none
theorem A92_ok : ∀ args p, A92 args = some p → progOf PROG false 92 args = p := by
  intro args p h
  unfold A92 at h
  split at h
  · cases h; exact T92_eq _ _
  · cases h
noncomputable def A98 : List Value → Option Pg
  | [(.string s0), (.int .u8 i1)] => some (T98 s0 i1)
  | _ => none
theorem A98_ok : ∀ args p, A98 args = some p → progOf PROG false 98 args = p := by
  intro args p h
  unfold A98 at h
  split at h
  · cases h; exact T98_eq _ _
  · cases h
noncomputable def A100 : List Value → Option Pg
  | [(.int .i64 i0)] => some (T100 i0)
  | _ => none
theorem A100_ok : ∀ args p, A100 args = some p → progOf PROG false 100 args = p := by
  intro args p h
  unfold A100 at h
  split at h
  · cases h; exact T100_eq _
  · cases h
noncomputable def A101 : List Value → Option Pg
  | [(.string s0), (.string s1)] => some (T101 s0 s1)
  | _ => none
theorem A101_ok : ∀ args p, A101 args = some p → progOf PROG false 101 args = p := by
  intro args p h
  unfold A101 at h
  split at h
  · cases h; exact T101_eq _ _
  · cases h
noncomputable def A105 : List Value → Option Pg
  | [(.string s0)] => some (T105 s0)
  | _ => none
theorem A105_ok : ∀ args p, A105 args = some p → progOf PROG false 105 args = p := by
  intro args p h
  unfold A105 at h
  split at h
  · cases h; exact T105_eq _
  · cases h
noncomputable def TAB : Tab := (.low 60 (.low 10 (.low 7 (.one 3 A3 (.one 7 A7 .nil)) (.one 8 A8 (.one 9 A9 (.one 10 A10 .nil)))) (.low 12 (.one 11 A11 (.one 12 A12 .nil)) (.one 32 A32 (.one 54 A54 (.one 60 A60 .nil))))) (.low 90 (.low 76 (.one 75 A75 (.one 76 A76 .nil)) (.one 77 A77 (.one 81 A81 (.one 90 A90 .nil)))) (.low 98 (.one 92 A92 (.one 98 A98 .nil)) (.one 100 A100 (.one 101 A101 (.one 105 A105 .nil))))))
theorem TAB_ok : TabOK PROG TAB := (.low (.low (.low (.one A3_ok (.one A7_ok .nil)) (.one A8_ok (.one A9_ok (.one A10_ok .nil)))) (.low (.one A11_ok (.one A12_ok .nil)) (.one A32_ok (.one A54_ok (.one A60_ok .nil))))) (.low (.low (.one A75_ok (.one A76_ok .nil)) (.one A77_ok (.one A81_ok (.one A90_ok .nil)))) (.low (.one A92_ok (.one A98_ok .nil)) (.one A100_ok (.one A101_ok (.one A105_ok .nil))))))

end Go.Pg
