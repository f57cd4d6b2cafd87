/- More trees; then the table of all. -/
import Derived.Test.YtlafmapnfbefiaaGreatDoorTCovera
namespace Go.Pg
open Go.Proofs
set_option linter.unusedVariables false

noncomputable def T75k0 : Ex → List Value → Pg :=
  fun e18 l19 => sw e18 .normal (asCons l19 fun v20 l21 => asBool v20 fun b22 => asNil l21 (.ret .normal [(.bool b22)])) (.fail)

noncomputable def T75k1 : Ex → List Value → Pg :=
  fun e67 l68 => sw e67 .normal (asCons l68 fun v69 l70 => asBool v69 fun b71 => asNil l70 (.ret .normal [(.bool b71)])) (.fail)

noncomputable def T75k2 (s15 : ByteArray) : Ex → List Value → Pg :=
  fun e72 l73 => sw e72 .normal (asCons l73 fun v74 l75 => asBool v74 fun b76 => asNil l75 (.ret .normal [(.bool b76), (.bool (s15.toList == (bs []).toList))])) (.fail)

noncomputable def T75k3 (a11 : Addr) (i17 : Int) (s13 : ByteArray) (s15 : ByteArray) : Ex → List Value → Pg :=
  fun e50 l51 => sw e50 .normal (asCons l51 fun v52 l53 => asBool v52 fun b54 => asNil l53 (.join (bif b54 then (.act (ld1 (aadd a11 2)) fun v55 => asStr v55 fun s56 => .call 50 [(.string s56)] fun v57 => asBool v57 fun b58 => .ret .normal [(.bool b58)]) else (.join (bif (i17 == 14) then (.act (bdSl 1 5 [(.string (bs [43])), (.string (bs [45])), (.string (bs [42])), (.string (bs [60])), (.string (bs [61]))]) fun v59 => asSlice v59 fun p60 n61 n62 => .act (ld1 (aadd a11 2)) fun v63 => asStr v63 fun s64 => .call 52 [(.slice p60 n61 n62), (.string s64)] fun v65 => asBool v65 fun b66 => .ret .normal [(.bool b66)]) else (.ret .normal [(.bool (s13.toList == (bs []).toList))])) (T75k1))) (T75k2 s15))) (.fail)

noncomputable def T75k4 : Ex → List Value → Pg :=
  fun e77 l78 => sw e77 .normal (asCons l78 fun v79 l80 => asBool v79 fun b81 => asCons l80 fun v82 l83 => asBool v82 fun b84 => asNil l83 (.ret .normal [(.bool b84), (.bool b81)])) (.fail)

noncomputable def T75k5 (a11 : Addr) (s13 : ByteArray) (i17 : Int) (s15 : ByteArray) : Ex → List Value → Pg :=
  fun e41 l42 => sw e41 .normal (asCons l42 fun v43 l44 => asBool v43 fun b45 => asNil l44 (.join (bif b45 then (.act (ld1 (aadd a11 3)) fun v46 => asStr v46 fun s47 => .call 48 [(.string s47)] fun v48 => asBool v48 fun b49 => .ret .normal [(.bool (s13.toList == (bs []).toList)), (.bool b49)]) else (.join (bif (i17 == 5) then (.ret .normal [(.bool (i17 == 5))]) else (.ret .normal [(.bool (i17 == 26))])) (T75k3 a11 i17 s13 s15))) (T75k4))) (.fail)

noncomputable def T75k6 : Ex → List Value → Pg :=
  fun e85 l86 => sw e85 .normal (asCons l86 fun v87 l88 => asBool v87 fun b89 => asCons l88 fun v90 l91 => asBool v90 fun b92 => asNil l91 (.ret .normal [(.bool b89), (.bool b92)])) (.fail)

noncomputable def T75k7 : Ex → List Value → Pg :=
  fun e93 l94 => sw e93 .normal (asCons l94 fun v95 l96 => asBool v95 fun b97 => asCons l96 fun v98 l99 => asBool v98 fun b100 => asNil l99 (.ret .normal [(.bool b97), (.bool b100)])) (.fail)

noncomputable def T75k8 (a11 : Addr) (s15 : ByteArray) (i17 : Int) (s13 : ByteArray) : Ex → List Value → Pg :=
  fun e23 l24 => sw e23 .normal (asCons l24 fun v25 l26 => asBool v25 fun b27 => asNil l26 (.join (bif b27 then (.act (ld1 (aadd a11 2)) fun v28 => asStr v28 fun s29 => .call 48 [(.string s29)] fun v30 => asBool v30 fun b31 => .ret .normal [(.bool (s15.toList == (bs []).toList)), (.bool b31)]) else (.join (bif (i17 == 9) then (.act (ld1 (aadd a11 2)) fun v32 => asStr v32 fun s33 => .get fun h35 => .call 48 [(.string s33)] fun v34 => asBool v34 fun b36 => .act (ld1 (aadd a11 3)) fun v37 => grd (past (ld1 (aadd a11 3)) v37 [h35]) (asStr v37 fun s38 => .call 48 [(.string s38)] fun v39 => asBool v39 fun b40 => .ret .normal [(.bool b40), (.bool b36)])) else (.join (bif (i17 == 6) then (.ret .normal [(.bool (i17 == 6))]) else (.ret .normal [(.bool (i17 == 20))])) (T75k5 a11 s13 i17 s15))) (T75k6))) (T75k7))) (.fail)

noncomputable def T75k9 : Ex → List Value → Pg :=
  fun e101 l102 => sw e101 .normal (asCons l102 fun v103 l104 => asBool v103 fun b105 => asCons l104 fun v106 l107 => asBool v106 fun b108 => asNil l107 (.ret .ret [(.bool (b108 && b105))])) (.fail)

/-- hindsight/tree.texts -/
noncomputable def T75 (i0 : Int) (i1 : Int) (s2 : ByteArray) (s3 : ByteArray) (p4 : (Option Addr)) (n5 : Nat) (n6 : Nat) (i7 : Int) (i8 : Int) : Pg :=
  .act (newC [(.int .i64 i0), (.int .i64 i1), (.string s2), (.string s3), (.slice p4 n5 n6), (.int .i64 i7), (.int .i64 i8)]) fun v9 => asPtr v9 fun p10 => asSome p10 fun a11 => .act (ld1 (aadd a11 2)) fun v12 => asStr v12 fun s13 => .act (ld1 (aadd a11 3)) fun v14 => asStr v14 fun s15 => .act (ld1 (aadd a11 0)) fun v16 => asInt .i64 v16 fun i17 => .join (.join (bif (i17 == 4) then (.ret .normal [(.bool (i17 == 4))]) else (.join (bif (i17 == 8) then (.ret .normal [(.bool (i17 == 8))]) else (.ret .normal [(.bool (i17 == 22))])) (T75k0))) (T75k8 a11 s15 i17 s13)) (T75k9)
theorem T75_eq (i0 : Int) (i1 : Int) (s2 : ByteArray) (s3 : ByteArray) (p4 : (Option Addr)) (n5 : Nat) (n6 : Nat) (i7 : Int) (i8 : Int) : progOf PROG false 75 [(.agg #[(.int .i64 i0), (.int .i64 i1), (.string s2), (.string s3), (.slice p4 n5 n6), (.int .i64 i7), (.int .i64 i8)])] = T75 i0 i1 s2 s3 p4 n5 n6 i7 i8 := by kernel_rfl


noncomputable def T76k0 : Ex → List Value → Pg :=
  fun e6 l7 => sw e6 .normal (asCons l7 fun v8 l9 => asBool v8 fun b10 => asNil l9 (.ret .normal [(.bool b10)])) (.fail)

noncomputable def T76k1 : Ex → List Value → Pg :=
  fun e11 l12 => sw e11 .normal (asCons l12 fun v13 l14 => asBool v13 fun b15 => asNil l14 (.ret .normal [(.bool b15)])) (.fail)

noncomputable def T76k2 : Ex → List Value → Pg :=
  fun e16 l17 => sw e16 .normal (asCons l17 fun v18 l19 => asBool v18 fun b20 => asNil l19 (.ret .normal [(.bool b20)])) (.fail)

noncomputable def T76k3 : Ex → List Value → Pg :=
  fun e26 l27 => sw e26 .normal (asCons l27 fun v28 l29 => asBool v28 fun b30 => asNil l29 (.ret .normal [(.bool b30)])) (.fail)

noncomputable def T76k4 : Ex → List Value → Pg :=
  fun e31 l32 => sw e31 .normal (asCons l32 fun v33 l34 => asBool v33 fun b35 => asNil l34 (.ret .normal [(.bool b35)])) (.fail)

noncomputable def T76k5 : Ex → List Value → Pg :=
  fun e36 l37 => sw e36 .normal (asCons l37 fun v38 l39 => asBool v38 fun b40 => asNil l39 (.ret .normal [(.bool b40)])) (.fail)

noncomputable def T76k6 : Ex → List Value → Pg :=
  fun e41 l42 => sw e41 .normal (asCons l42 fun v43 l44 => asBool v43 fun b45 => asNil l44 (.ret .normal [(.bool b45)])) (.fail)

noncomputable def T76k7 : Ex → List Value → Pg :=
  fun e46 l47 => sw e46 .normal (asCons l47 fun v48 l49 => asBool v48 fun b50 => asNil l49 (.ret .normal [(.bool b50)])) (.fail)

noncomputable def T76k8 (i0 : Int) : Ex → List Value → Pg :=
  fun e51 l52 => sw e51 .normal (asCons l52 fun v53 l54 => asBool v53 fun b55 => asNil l54 (bif b55 then (.ret .ret [(.int .i64 2), (.int .i64 2)]) else (bif (i0 == 10) then (.ret .ret [(.int .i64 3), (.int .i64 3)]) else (.ret .normal [(.int .i64 0), (.int .i64 0)])))) (.fail)

noncomputable def T76k9 (i0 : Int) : Ex → List Value → Pg :=
  fun e21 l22 => sw e21 .normal (asCons l22 fun v23 l24 => asBool v23 fun b25 => asNil l24 (bif b25 then (.ret .ret [(.int .i64 1), (.int .i64 1)]) else (.join (bif (i0 == 7) then (.ret .normal [(.bool (i0 == 7))]) else (.join (bif (i0 == 8) then (.ret .normal [(.bool (i0 == 8))]) else (.join (bif (i0 == 9) then (.ret .normal [(.bool (i0 == 9))]) else (.join (bif (i0 == 12) then (.ret .normal [(.bool (i0 == 12))]) else (.join (bif (i0 == 13) then (.ret .normal [(.bool (i0 == 13))]) else (.join (bif (i0 == 14) then (.ret .normal [(.bool (i0 == 14))]) else (.ret .normal [(.bool (i0 == 20))])) (T76k3))) (T76k4))) (T76k5))) (T76k6))) (T76k7))) (T76k8 i0)))) (.fail)

noncomputable def T76k10 (i0 : Int) : Ex → List Value → Pg :=
  fun e1 l2 => sw e1 .normal (asCons l2 fun v3 l4 => asBool v3 fun b5 => asNil l4 (bif b5 then (.ret .ret [(.int .i64 3), (.int .i64 0)]) else (bif (i0 == 11) then (.ret .ret [(.int .i64 1000), (.int .i64 3)]) else (.join (bif (i0 == 6) then (.ret .normal [(.bool (i0 == 6))]) else (.join (bif (i0 == 15) then (.ret .normal [(.bool (i0 == 15))]) else (.join (bif (i0 == 16) then (.ret .normal [(.bool (i0 == 16))]) else (.join (bif (i0 == 17) then (.ret .normal [(.bool (i0 == 17))]) else (.ret .normal [(.bool (i0 == 19))])) (T76k0))) (T76k1))) (T76k2))) (T76k9 i0))))) (.fail)

noncomputable def T76k11 : Ex → List Value → Pg :=
  fun e56 l57 => sw e56 .ret (asCons l57 fun v58 l59 => asInt .i64 v58 fun i60 => asCons l59 fun v61 l62 => asInt .i64 v61 fun i63 => asNil l62 (.ret .ret [(.tuple #[(.int .i64 i63), (.int .i64 i60)])])) (sw e56 .normal (asCons l57 fun v64 l65 => asInt .i64 v64 fun i66 => asCons l65 fun v67 l68 => asInt .i64 v67 fun i69 => asNil l68 (.ret .ret [(.tuple #[(.int .i64 0), (.int .i64 0)])])) (.fail))

/-- hindsight/tree.kids -/
noncomputable def T76 (i0 : Int) : Pg :=
  .join (.join (bif (i0 == 5) then (.ret .normal [(.bool (i0 == 5))]) else (.ret .normal [(.bool (i0 == 26))])) (T76k10 i0)) (T76k11)
theorem T76_eq (i0 : Int) : progOf PROG false 76 [(.int .i64 i0)] = T76 i0 := by kernel_rfl


noncomputable def T81k0 : Ex → List Value → Pg :=
  fun e13 l14 => sw e13 .ret (asCons l14 fun v15 l16 => asInt .i64 v15 fun i17 => asNil l16 (.ret .ret [(.int .i64 i17)])) (sw e13 .normal (asCons l14 fun v18 l19 => asInt .i64 v18 fun i20 => asNil l19 (.ret .normal [(.int .i64 i20)])) (.fail))

noncomputable def T81b0 (a3 : Addr) : List Value → Pg :=
  fun l4 => asCons l4 fun v5 l6 => asInt .i64 v5 fun i7 => asNil l6 (.act (nxt (some a3)) fun v8 => asNx v8 (fun i9 i10 => .join (.call 61 [(.int .i32 i10)] fun v11 => asInt .i64 v11 fun i12 => bif ((i12 != 1) && (i12 != 2)) then (.ret .ret [(.int .i64 i9)]) else (.ret .normal [(.int .i64 i7)])) (T81k0)) (.ret (.exit 0) [(.int .i64 i7)]))

noncomputable def T81k1 (s0 : ByteArray) : Ex → List Value → Pg :=
  fun e21 l22 => sw e21 (.exit 0) (asCons l22 fun v23 l24 => asInt .i64 v23 fun i25 => asNil l24 (.ret .ret [(.int .i64 ((s0.size : Nat) : Int))])) (sw e21 .ret (asCons l22 fun v26 l27 => asInt .i64 v26 fun i28 => asNil l27 (.ret .ret [(.int .i64 i28)])) (.fail))

/-- hindsight/hindsightref1.tail -/
noncomputable def T81 (s0 : ByteArray) : Pg :=
  .act (rng s0) fun v1 => asPtr v1 fun p2 => asSome p2 fun a3 => .loop [(.int .i64 0)] (T81b0 a3) (T81k1 s0)
theorem T81_eq (s0 : ByteArray) : progOf PROG false 81 [(.string s0)] = T81 s0 := by kernel_rfl


noncomputable def T83k0 (i8 : Int) : Ex → List Value → Pg :=
  fun e15 l16 => sw e15 .ret (asCons l16 fun v17 l18 => asBool v17 fun b19 => asNil l18 (.ret .ret [(.int .i64 i8), (.bool b19)])) (sw e15 .normal (asCons l16 fun v20 l21 => asBool v20 fun b22 => asNil l21 (.ret .normal [(.int .i64 (wi64 (i8 + 1))), (.bool b22)])) (.fail))

noncomputable def T83b0 (n3 : Nat) (p2 : (Option Addr)) (s0 : ByteArray) : List Value → Pg :=
  fun l5 => asCons l5 fun v6 l7 => asInt .i64 v6 fun i8 => asCons l7 fun v9 l10 => asBool v9 fun b11 => asNil l10 (bif (decide (i8 < ((n3 : Nat) : Int))) then (.join (asSome p2 fun a12 => grd ((decide (0 ≤ i8)) && (decide (i8 < ((n3 : Nat) : Int)))) (.act (ld1 (aadd a12 ((Int.toNat i8) * 1))) fun v13 => asStr v13 fun s14 => bif (s14.toList == s0.toList) then (.ret .ret [(.bool true)]) else (.ret .normal [(.bool b11)]))) (T83k0 i8)) else (.ret (.exit 0) [(.int .i64 i8), (.bool b11)]))

noncomputable def T83k1 : Ex → List Value → Pg :=
  fun e23 l24 => sw e23 (.exit 0) (asCons l24 fun v25 l26 => asInt .i64 v25 fun i27 => asCons l26 fun v28 l29 => asBool v28 fun b30 => asNil l29 (.ret .ret [(.bool false)])) (sw e23 .ret (asCons l24 fun v31 l32 => asInt .i64 v31 fun i33 => asCons l32 fun v34 l35 => asBool v34 fun b36 => asNil l35 (.ret .ret [(.bool b36)])) (.fail))

/-- hindsight/hindsightref1.Key -/
noncomputable def T83 (s0 : ByteArray) : Pg :=
  .act (bdSl 1 19 [(.string (bs [116, 121, 112, 101])), (.string (bs [111, 102])), (.string (bs [108, 101, 116])), (.string (bs [114, 101, 99])), (.string (bs [105, 110])), (.string (bs [102, 117, 110])), (.string (bs [105, 102])), (.string (bs [116, 104, 101, 110])), (.string (bs [101, 108, 115, 101])), (.string (bs [109, 97, 116, 99, 104])), (.string (bs [119, 105, 116, 104])), (.string (bs [101, 110, 100])), (.string (bs [114, 101, 102])), (.string (bs [112, 114, 105, 110, 116])), (.string (bs [114, 101, 97, 100])), (.string (bs [114, 97, 105, 115, 101])), (.string (bs [116, 114, 121])), (.string (bs [116, 114, 117, 101])), (.string (bs [102, 97, 108, 115, 101]))]) fun v1 => asSlice v1 fun p2 n3 n4 => .loop [(.int .i64 0), (.bool false)] (T83b0 n3 p2 s0) (T83k1)
theorem T83_eq (s0 : ByteArray) : progOf PROG false 83 [(.string s0)] = T83 s0 := by kernel_rfl


noncomputable def T84k0 : Ex → List Value → Pg :=
  fun e28 l29 => sw e28 .normal (asCons l29 fun v30 l31 => asBool v30 fun b32 => asNil l31 (.ret .ret [(.bool b32)])) (.fail)

/-- (*hindsight/hindsightref3.reader).is -/
noncomputable def T84 (p0 : (Option Addr)) (s1 : ByteArray) : Pg :=
  .call 45 [(.pointer p0)] fun v2 => asAgg v2 fun l3 => asCons l3 fun v4 l5 => asInt .i64 v4 fun i6 => asCons l5 fun v7 l8 => asStr v7 fun s9 => asCons l8 fun v10 l11 => asInt .i64 v10 fun i12 => asCons l11 fun v13 l14 => asInt .i64 v13 fun i15 => asNil l14 (.act (newC [(.int .i64 0), (.string (bs [])), (.int .i64 0), (.int .i64 0)]) fun v16 => asPtr v16 fun p17 => asSome p17 fun a18 => .act (stC a18 [(.int .i64 i6), (.string s9), (.int .i64 i12), (.int .i64 i15)]) fun v19 => asTuple v19 fun l20 => asNil l20 (.join (asSome p0 fun a21 => .act (ld1 (aadd a21 3)) fun v22 => asBool v22 fun b23 => bif (!b23) == true then (.act (ld1 (aadd a18 0)) fun v24 => asInt .i64 v24 fun i25 => bif (decide (i25 > 3)) == true then (.act (ld1 (aadd a18 1)) fun v26 => asStr v26 fun s27 => .ret .normal [(.bool (s27.toList == s1.toList))]) else (.ret .normal [(.bool false)])) else (.ret .normal [(.bool false)])) (T84k0)))
theorem T84_eq (p0 : (Option Addr)) (s1 : ByteArray) : progOf PROG false 84 [(.pointer p0), (.string s1)] = T84 p0 s1 := by kernel_rfl


/-- (*hindsight/hindsightref3.reader).cmp -/
noncomputable def T85 (p0 : (Option Addr)) : Pg :=
  .call 107 [(.pointer p0)] fun v1 => asPtr v1 fun p2 => .call 64 [(.pointer p0), (.string (bs [60]))] fun v3 => asBool v3 fun b4 => bif b4 then (.call 107 [(.pointer p0)] fun v5 => asPtr v5 fun p6 => .call 68 [(.int .i64 14), (.string (bs [60])), (.pointer p2), (.pointer p6)] fun v7 => asPtr v7 fun p8 => .ret .ret [(.pointer p8)]) else (.call 64 [(.pointer p0), (.string (bs [61]))] fun v9 => asBool v9 fun b10 => bif b10 then (.call 107 [(.pointer p0)] fun v11 => asPtr v11 fun p12 => .call 68 [(.int .i64 14), (.string (bs [61])), (.pointer p2), (.pointer p12)] fun v13 => asPtr v13 fun p14 => .ret .ret [(.pointer p14)]) else (.ret .ret [(.pointer p2)]))
theorem T85_eq (p0 : (Option Addr)) : progOf PROG false 85 [(.pointer p0)] = T85 p0 := by kernel_rfl


/-- hindsight/hindsightref3.variable -/
noncomputable def T86 (s0 : ByteArray) : Pg :=
  .call 108 [(.string s0)] fun v1 => asBool v1 fun b2 => .ret .ret [(.bool (b2 && (!(s0.toList == (bs [95]).toList))))]
theorem T86_eq (s0 : ByteArray) : progOf PROG false 86 [(.string s0)] = T86 s0 := by kernel_rfl


noncomputable def T87k0 : Ex → List Value → Pg :=
  fun e20 l21 => sw e20 .normal (asCons l21 fun v22 l23 => asBool v22 fun b24 => asNil l23 (.ret .ret [(.bool b24)])) (.fail)

/-- hindsight/hindsightref1.Cons -/
noncomputable def T87 (s0 : ByteArray) : Pg :=
  .call 42 [(.string s0)] fun v1 => asTuple v1 fun l2 => asCons l2 fun v3 l4 => asSlice v3 fun p5 n6 n7 => asCons l4 fun v8 l9 => asInt .i64 v8 fun i10 => asCons l9 fun v11 l12 => asInt .i64 v11 fun i13 => asNil l12 (.join (bif (i10 == 0) == true then (bif (((n6 : Nat) : Int) == 1) == true then (asSome p5 fun a14 => grd (decide (0 < ((n6 : Nat) : Int))) (.act (ld1 (aadd (aadd a14 0) 0)) fun v15 => asInt .i64 v15 fun i16 => bif (i16 == 3) == true then (asSome p5 fun a17 => grd (decide (0 < ((n6 : Nat) : Int))) (.act (ld1 (aadd (aadd a17 0) 1)) fun v18 => asStr v18 fun s19 => .ret .normal [(.bool (s19.toList == s0.toList))])) else (.ret .normal [(.bool false)]))) else (.ret .normal [(.bool false)])) else (.ret .normal [(.bool false)])) (T87k0))
theorem T87_eq (s0 : ByteArray) : progOf PROG false 87 [(.string s0)] = T87 s0 := by kernel_rfl


noncomputable def T88k0 (i13 : Int) : Ex → List Value → Pg :=
  fun e23 l24 => sw e23 .ret (asCons l24 fun v25 l26 => asBool v25 fun b27 => asNil l26 (.ret .ret [(.int .i64 i13), (.bool b27)])) (sw e23 .normal (asCons l24 fun v28 l29 => asBool v28 fun b30 => asNil l29 (.ret .normal [(.int .i64 (wi64 (i13 + 1))), (.bool b30)])) (.fail))

noncomputable def T88b0 (i6 : Int) (p0 : (Option Addr)) (n1 : Nat) : List Value → Pg :=
  fun l10 => asCons l10 fun v11 l12 => asInt .i64 v11 fun i13 => asCons l12 fun v14 l15 => asBool v14 fun b16 => asNil l15 (bif (decide (i13 < i6)) then (.join (asSome p0 fun a17 => grd ((decide (0 ≤ i6)) && (decide (i6 < ((n1 : Nat) : Int)))) (.act (ld1 (aadd a17 ((Int.toNat i6) * 1))) fun v18 => asStr v18 fun s19 => asSome p0 fun a20 => grd ((decide (0 ≤ i13)) && (decide (i13 < ((n1 : Nat) : Int)))) (.act (ld1 (aadd a20 ((Int.toNat i13) * 1))) fun v21 => asStr v21 fun s22 => bif (s19.toList == s22.toList) then (.ret .ret [(.bool true)]) else (.ret .normal [(.bool b16)])))) (T88k0 i13)) else (.ret (.exit 2) [(.int .i64 i13), (.bool b16)]))

noncomputable def T88k1 : Ex → List Value → Pg :=
  fun e31 l32 => sw e31 (.exit 2) (asCons l32 fun v33 l34 => asInt .i64 v33 fun i35 => asCons l34 fun v36 l37 => asBool v36 fun b38 => asNil l37 (.ret .normal [(.bool b38)])) (sw e31 .ret (asCons l32 fun v39 l40 => asInt .i64 v39 fun i41 => asCons l40 fun v42 l43 => asBool v42 fun b44 => asNil l43 (.ret .ret [(.bool b44)])) (.fail))

noncomputable def T88k2 (i6 : Int) : Ex → List Value → Pg :=
  fun e45 l46 => sw e45 .ret (asCons l46 fun v47 l48 => asBool v47 fun b49 => asNil l48 (.ret .ret [(.int .i64 i6), (.bool b49)])) (sw e45 .normal (asCons l46 fun v50 l51 => asBool v50 fun b52 => asNil l51 (.ret .normal [(.int .i64 (wi64 (i6 + 1))), (.bool b52)])) (.fail))

noncomputable def T88b1 (n1 : Nat) (p0 : (Option Addr)) : List Value → Pg :=
  fun l3 => asCons l3 fun v4 l5 => asInt .i64 v4 fun i6 => asCons l5 fun v7 l8 => asBool v7 fun b9 => asNil l8 (bif (decide (i6 < ((n1 : Nat) : Int))) then (.join (.loop [(.int .i64 0), (.bool b9)] (T88b0 i6 p0 n1) (T88k1)) (T88k2 i6)) else (.ret (.exit 0) [(.int .i64 i6), (.bool b9)]))

noncomputable def T88k3 : Ex → List Value → Pg :=
  fun e53 l54 => sw e53 (.exit 0) (asCons l54 fun v55 l56 => asInt .i64 v55 fun i57 => asCons l56 fun v58 l59 => asBool v58 fun b60 => asNil l59 (.ret .ret [(.bool false)])) (sw e53 .ret (asCons l54 fun v61 l62 => asInt .i64 v61 fun i63 => asCons l62 fun v64 l65 => asBool v64 fun b66 => asNil l65 (.ret .ret [(.bool b66)])) (.fail))

/-- hindsight/hindsightref3.twice -/
noncomputable def T88 (p0 : (Option Addr)) (n1 : Nat) (n2 : Nat) : Pg :=
  .loop [(.int .i64 0), (.bool false)] (T88b1 n1 p0) (T88k3)
theorem T88_eq (p0 : (Option Addr)) (n1 : Nat) (n2 : Nat) : progOf PROG false 88 [(.slice p0 n1 n2)] = T88 p0 n1 n2 := by kernel_rfl


noncomputable def T89k0 (i7 : Int) : Ex → List Value → Pg :=
  fun e14 l15 => sw e14 .ret (asCons l15 fun v16 l17 => asBool v16 fun b18 => asNil l17 (.ret .ret [(.int .i64 i7), (.bool b18)])) (sw e14 .normal (asCons l15 fun v19 l20 => asBool v19 fun b21 => asNil l20 (.ret .normal [(.int .i64 (wi64 (i7 + 1))), (.bool b21)])) (.fail))

noncomputable def T89b0 (n1 : Nat) (p0 : (Option Addr)) (s3 : ByteArray) : List Value → Pg :=
  fun l4 => asCons l4 fun v5 l6 => asInt .i64 v5 fun i7 => asCons l6 fun v8 l9 => asBool v8 fun b10 => asNil l9 (bif (decide (i7 < ((n1 : Nat) : Int))) then (.join (asSome p0 fun a11 => grd ((decide (0 ≤ i7)) && (decide (i7 < ((n1 : Nat) : Int)))) (.act (ld1 (aadd a11 ((Int.toNat i7) * 1))) fun v12 => asStr v12 fun s13 => bif (s13.toList == s3.toList) then (.ret .ret [(.bool true)]) else (.ret .normal [(.bool b10)]))) (T89k0 i7)) else (.ret (.exit 0) [(.int .i64 i7), (.bool b10)]))

noncomputable def T89k1 : Ex → List Value → Pg :=
  fun e22 l23 => sw e22 (.exit 0) (asCons l23 fun v24 l25 => asInt .i64 v24 fun i26 => asCons l25 fun v27 l28 => asBool v27 fun b29 => asNil l28 (.ret .ret [(.bool false)])) (sw e22 .ret (asCons l23 fun v30 l31 => asInt .i64 v30 fun i32 => asCons l31 fun v33 l34 => asBool v33 fun b35 => asNil l34 (.ret .ret [(.bool b35)])) (.fail))

/-- hindsight/hindsightref3.in -/
noncomputable def T89 (p0 : (Option Addr)) (n1 : Nat) (n2 : Nat) (s3 : ByteArray) : Pg :=
  .loop [(.int .i64 0), (.bool false)] (T89b0 n1 p0 s3) (T89k1)
theorem T89_eq (p0 : (Option Addr)) (n1 : Nat) (n2 : Nat) (s3 : ByteArray) : progOf PROG false 89 [(.slice p0 n1 n2), (.string s3)] = T89 p0 n1 n2 s3 := by kernel_rfl


noncomputable def T90k0 : Ex → List Value → Pg :=
  fun e34 l35 => sw e34 .normal (asCons l35 fun v36 l37 => asBool v36 fun b38 => asNil l37 (bif b38 then (.ret .ret [(.bool false)]) else (.ret .normal [(.bool false)]))) (.fail)

noncomputable def T90k1 : Ex → List Value → Pg :=
  fun e44 l45 => sw e44 .ret (asCons l45 fun v46 l47 => asBool v46 fun b48 => asNil l47 (.ret .ret [(.bool b48)])) (sw e44 .normal (asCons l45 fun v49 l50 => asBool v49 fun b51 => asNil l50 (.ret .normal [(.bool b51)])) (.fail))

noncomputable def T90k2 : Ex → List Value → Pg :=
  fun e52 l53 => sw e52 .ret (asCons l53 fun v54 l55 => asBool v54 fun b56 => asNil l55 (.ret .ret [(.bool b56)])) (sw e52 .normal (asCons l53 fun v57 l58 => asBool v57 fun b59 => asNil l58 (.ret .normal [(.bool b59)])) (.fail))

noncomputable def T90k3 (b67 : Bool) : Ex → List Value → Pg :=
  fun e82 l83 => sw e82 .normal (asCons l83 fun v84 l85 => asBool v84 fun b86 => asNil l85 (bif b86 then (.ret .ret [(.bool false)]) else (.ret .normal [(.bool b67)]))) (.fail)

noncomputable def T90k4 (b67 : Bool) : Ex → List Value → Pg :=
  fun e96 l97 => sw e96 .normal (asCons l97 fun v98 l99 => asBool v98 fun b100 => asNil l99 (bif b100 then (.ret .ret [(.bool false)]) else (.ret .normal [(.bool b67)]))) (.fail)

noncomputable def T90k5 : Ex → List Value → Pg :=
  fun e103 l104 => sw e103 .ret (asCons l104 fun v105 l106 => asBool v105 fun b107 => asNil l106 (.ret .ret [(.bool b107)])) (sw e103 .normal (asCons l104 fun v108 l109 => asBool v108 fun b110 => asNil l109 (.ret .normal [(.bool b110)])) (.fail))

noncomputable def T90k6 (a11 : Addr) (b67 : Bool) : Ex → List Value → Pg :=
  fun e87 l88 => sw e87 .normal (asCons l88 fun v89 l90 => asBool v89 fun b91 => asNil l90 (.join (bif b91 then (.join (.act (ld1 (aadd a11 1)) fun v92 => asInt .i64 v92 fun i93 => bif (i93 != 0) == true then (.act (ld1 (aadd a11 1)) fun v94 => asInt .i64 v94 fun i95 => .ret .normal [(.bool (i95 != 1))]) else (.ret .normal [(.bool false)])) (T90k4 b67)) else (.act (ld1 (aadd a11 1)) fun v101 => asInt .i64 v101 fun i102 => bif (i102 != 0) then (.ret .ret [(.bool false)]) else (.ret .normal [(.bool b67)]))) (T90k5))) (.fail)

noncomputable def T90k7 : Ex → List Value → Pg :=
  fun e111 l112 => sw e111 .ret (asCons l112 fun v113 l114 => asBool v113 fun b115 => asNil l114 (.ret .ret [(.bool b115)])) (sw e111 .normal (asCons l112 fun v116 l117 => asBool v116 fun b118 => asNil l117 (.ret .normal [(.bool b118)])) (.fail))

noncomputable def T90k8 (a11 : Addr) (b67 : Bool) (i69 : Int) : Ex → List Value → Pg :=
  fun e70 l71 => sw e70 .normal (asCons l71 fun v72 l73 => asBool v72 fun b74 => asNil l73 (.join (bif b74 then (.join (.act (ld1 (aadd a11 1)) fun v75 => asInt .i64 v75 fun i76 => bif (decide (i76 < 0)) == false then (.act (ld1 (aadd a11 1)) fun v77 => asInt .i64 v77 fun i78 => .call 109 [] fun v79 => asInt .i64 v79 fun i80 => .get fun h81 => grd (chks [((ld1 (aadd a11 1)), v77)] h81) (.ret .normal [(.bool (decide (i78 > i80)))])) else (.ret .normal [(.bool true)])) (T90k3 b67)) else (.join (bif (i69 == 2) then (.ret .normal [(.bool (i69 == 2))]) else (.ret .normal [(.bool (i69 == 24))])) (T90k6 a11 b67))) (T90k7))) (.fail)

noncomputable def T90k9 : Ex → List Value → Pg :=
  fun e129 l130 => sw e129 .normal (asCons l130 fun v131 l132 => asBool v131 fun b133 => asNil l132 (.ret .normal [(.bool b133)])) (.fail)

noncomputable def T90k10 : Ex → List Value → Pg :=
  fun e134 l135 => sw e134 .normal (asCons l135 fun v136 l137 => asBool v136 fun b138 => asNil l137 (.ret .normal [(.bool b138)])) (.fail)

noncomputable def T90k11 (b126 : Bool) : Ex → List Value → Pg :=
  fun e167 l168 => sw e167 .normal (asCons l168 fun v169 l170 => asBool v169 fun b171 => asNil l170 (bif b171 then (.ret .ret [(.bool false)]) else (.ret .normal [(.bool b126)]))) (.fail)

noncomputable def T90k12 : Ex → List Value → Pg :=
  fun e174 l175 => sw e174 .ret (asCons l175 fun v176 l177 => asBool v176 fun b178 => asNil l177 (.ret .ret [(.bool b178)])) (sw e174 .normal (asCons l175 fun v179 l180 => asBool v179 fun b181 => asNil l180 (.ret .normal [(.bool b181)])) (.fail))

noncomputable def T90k13 : Ex → List Value → Pg :=
  fun e182 l183 => sw e182 .ret (asCons l183 fun v184 l185 => asBool v184 fun b186 => asNil l185 (.ret .ret [(.bool b186)])) (sw e182 .normal (asCons l183 fun v187 l188 => asBool v187 fun b189 => asNil l188 (.ret .normal [(.bool b189)])) (.fail))

noncomputable def T90k14 (a11 : Addr) (b126 : Bool) (i128 : Int) : Ex → List Value → Pg :=
  fun e148 l149 => sw e148 .normal (asCons l149 fun v150 l151 => asBool v150 fun b152 => asNil l151 (.join (bif b152 then (.act (ld1 (aadd a11 2)) fun v153 => asStr v153 fun s154 => .call 87 [(.string s154)] fun v155 => asBool v155 fun b156 => bif (!b156) then (.ret .ret [(.bool false)]) else (.ret .normal [(.bool b126)])) else (.join (bif (i128 == 14) then (.join (.act (ld1 (aadd a11 2)) fun v157 => asStr v157 fun s158 => bif (!(s158.toList == (bs [43]).toList)) == true then (.act (ld1 (aadd a11 2)) fun v159 => asStr v159 fun s160 => bif (!(s160.toList == (bs [45]).toList)) == true then (.act (ld1 (aadd a11 2)) fun v161 => asStr v161 fun s162 => bif (!(s162.toList == (bs [42]).toList)) == true then (.act (ld1 (aadd a11 2)) fun v163 => asStr v163 fun s164 => bif (!(s164.toList == (bs [60]).toList)) == true then (.act (ld1 (aadd a11 2)) fun v165 => asStr v165 fun s166 => .ret .normal [(.bool (!(s166.toList == (bs [61]).toList)))]) else (.ret .normal [(.bool false)])) else (.ret .normal [(.bool false)])) else (.ret .normal [(.bool false)])) else (.ret .normal [(.bool false)])) (T90k11 b126)) else (.act (ld1 (aadd a11 2)) fun v172 => asStr v172 fun s173 => bif (!(s173.toList == (bs []).toList)) then (.ret .ret [(.bool false)]) else (.ret .normal [(.bool b126)]))) (T90k12))) (T90k13))) (.fail)

noncomputable def T90k15 : Ex → List Value → Pg :=
  fun e190 l191 => sw e190 .ret (asCons l191 fun v192 l193 => asBool v192 fun b194 => asNil l193 (.ret .ret [(.bool b194)])) (sw e190 .normal (asCons l191 fun v195 l196 => asBool v195 fun b197 => asNil l196 (.ret .normal [(.bool b197)])) (.fail))

noncomputable def T90k16 (a11 : Addr) (b126 : Bool) (i128 : Int) : Ex → List Value → Pg :=
  fun e139 l140 => sw e139 .normal (asCons l140 fun v141 l142 => asBool v141 fun b143 => asNil l142 (.join (bif b143 then (.act (ld1 (aadd a11 2)) fun v144 => asStr v144 fun s145 => .call 86 [(.string s145)] fun v146 => asBool v146 fun b147 => bif (!b147) then (.ret .ret [(.bool false)]) else (.ret .normal [(.bool b126)])) else (.join (bif (i128 == 5) then (.ret .normal [(.bool (i128 == 5))]) else (.ret .normal [(.bool (i128 == 26))])) (T90k14 a11 b126 i128))) (T90k15))) (.fail)

noncomputable def T90k17 (a11 : Addr) : Ex → List Value → Pg :=
  fun e212 l213 => sw e212 .normal (asCons l213 fun v214 l215 => asBool v214 fun b216 => asNil l215 (bif b216 then (.act (ld1 (aadd a11 3)) fun v217 => asStr v217 fun s218 => .call 86 [(.string s218)] fun v219 => asBool v219 fun b220 => .ret .ret [(.bool b220)]) else (.act (ld1 (aadd a11 3)) fun v221 => asStr v221 fun s222 => .ret .ret [(.bool (s222.toList == (bs []).toList))]))) (.fail)

noncomputable def T90k18 (a11 : Addr) : Ex → List Value → Pg :=
  fun e198 l199 => sw e198 .ret (asCons l199 fun v200 l201 => asBool v200 fun b202 => asNil l201 (.ret .ret [(.bool b202)])) (sw e198 .normal (asCons l199 fun v203 l204 => asBool v203 fun b205 => asNil l204 (.join (.act (ld1 (aadd a11 0)) fun v206 => asInt .i64 v206 fun i207 => bif (i207 == 6) == false then (.act (ld1 (aadd a11 0)) fun v208 => asInt .i64 v208 fun i209 => bif (i209 == 9) == false then (.act (ld1 (aadd a11 0)) fun v210 => asInt .i64 v210 fun i211 => .ret .normal [(.bool (i211 == 20))]) else (.ret .normal [(.bool true)])) else (.ret .normal [(.bool true)])) (T90k17 a11))) (.fail))

noncomputable def T90k19 (a11 : Addr) : Ex → List Value → Pg :=
  fun e119 l120 => sw e119 .ret (asCons l120 fun v121 l122 => asBool v121 fun b123 => asNil l122 (.ret .ret [(.bool b123)])) (sw e119 .normal (asCons l120 fun v124 l125 => asBool v124 fun b126 => asNil l125 (.act (ld1 (aadd a11 0)) fun v127 => asInt .i64 v127 fun i128 => .join (.join (bif (i128 == 4) then (.ret .normal [(.bool (i128 == 4))]) else (.join (bif (i128 == 8) then (.ret .normal [(.bool (i128 == 8))]) else (.join (bif (i128 == 9) then (.ret .normal [(.bool (i128 == 9))]) else (.ret .normal [(.bool (i128 == 22))])) (T90k9))) (T90k10))) (T90k16 a11 b126 i128)) (T90k18 a11))) (.fail))

noncomputable def T90k20 (a11 : Addr) : Ex → List Value → Pg :=
  fun e60 l61 => sw e60 .ret (asCons l61 fun v62 l63 => asBool v62 fun b64 => asNil l63 (.ret .ret [(.bool b64)])) (sw e60 .normal (asCons l61 fun v65 l66 => asBool v65 fun b67 => asNil l66 (.act (ld1 (aadd a11 0)) fun v68 => asInt .i64 v68 fun i69 => .join (.join (bif (i69 == 1) then (.ret .normal [(.bool (i69 == 1))]) else (.ret .normal [(.bool (i69 == 23))])) (T90k8 a11 b67 i69)) (T90k19 a11))) (.fail))

noncomputable def T90k21 (a11 : Addr) (p13 : (Option Addr)) (n14 : Nat) : Ex → List Value → Pg :=
  fun e20 l21 => sw e20 .normal (asCons l21 fun v22 l23 => asBool v22 fun b24 => asNil l23 (bif b24 then (.ret .ret [(.bool false)]) else (.act (ld1 (aadd a11 4)) fun v25 => asSlice v25 fun p26 n27 n28 => .act (ld1 (aadd a11 0)) fun v29 => asInt .i64 v29 fun i30 => asSome p13 fun a31 => grd ((decide (0 ≤ i30)) && (decide (i30 < ((n14 : Nat) : Int)))) (.act (ld1 (aadd a31 ((Int.toNat i30) * 1))) fun v32 => asInt .i64 v32 fun i33 => .join (.join (bif (i33 == (-2)) then (bif (decide (((n27 : Nat) : Int) > 3)) then (.ret .ret [(.bool false)]) else (.ret .normal [(.bool false)])) else (.join (bif (i33 == (-3)) then (.join (bif (decide (((n27 : Nat) : Int) < 3)) == false then (.ret .normal [(.bool ((Int.tmod ((n27 : Nat) : Int) 2) == 0))]) else (.ret .normal [(.bool true)])) (T90k0)) else (.act (ld1 (aadd a11 0)) fun v39 => asInt .i64 v39 fun i40 => asSome p13 fun a41 => grd ((decide (0 ≤ i40)) && (decide (i40 < ((n14 : Nat) : Int)))) (.act (ld1 (aadd a41 ((Int.toNat i40) * 1))) fun v42 => asInt .i64 v42 fun i43 => bif (((n27 : Nat) : Int) != i43) then (.ret .ret [(.bool false)]) else (.ret .normal [(.bool false)])))) (T90k1))) (T90k2)) (T90k20 a11))))) (.fail)

/-- hindsight/hindsightref3.shape -/
noncomputable def T90 (i0 : Int) (i1 : Int) (s2 : ByteArray) (s3 : ByteArray) (p4 : (Option Addr)) (n5 : Nat) (n6 : Nat) (i7 : Int) (i8 : Int) : Pg :=
  .act (newC [(.int .i64 i0), (.int .i64 i1), (.string s2), (.string s3), (.slice p4 n5 n6), (.int .i64 i7), (.int .i64 i8)]) fun v9 => asPtr v9 fun p10 => asSome p10 fun a11 => .act (bdSl 1 27 [(.int .i64 (-1)), (.int .i64 0), (.int .i64 0), (.int .i64 0), (.int .i64 0), (.int .i64 (-2)), (.int .i64 1), (.int .i64 2), (.int .i64 2), (.int .i64 2), (.int .i64 3), (.int .i64 (-3)), (.int .i64 2), (.int .i64 2), (.int .i64 2), (.int .i64 1), (.int .i64 1), (.int .i64 1), (.int .i64 0), (.int .i64 1), (.int .i64 2), (.int .i64 0), (.int .i64 0), (.int .i64 0), (.int .i64 0), (.int .i64 0), (.int .i64 (-2))]) fun v12 => asSlice v12 fun p13 n14 n15 => .join (.act (ld1 (aadd a11 0)) fun v16 => asInt .i64 v16 fun i17 => bif (decide (i17 < 1)) == false then (.act (ld1 (aadd a11 0)) fun v18 => asInt .i64 v18 fun i19 => .ret .normal [(.bool (decide (i19 > 26)))]) else (.ret .normal [(.bool true)])) (T90k21 a11 p13 n14)
theorem T90_eq (i0 : Int) (i1 : Int) (s2 : ByteArray) (s3 : ByteArray) (p4 : (Option Addr)) (n5 : Nat) (n6 : Nat) (i7 : Int) (i8 : Int) : progOf PROG false 90 [(.agg #[(.int .i64 i0), (.int .i64 i1), (.string s2), (.string s3), (.slice p4 n5 n6), (.int .i64 i7), (.int .i64 i8)])] = T90 i0 i1 s2 s3 p4 n5 n6 i7 i8 := by kernel_rfl


noncomputable def T91k0 (i30 : Int) : Ex → List Value → Pg :=
  fun e61 l62 => sw e61 .ret (asCons l62 fun v63 l64 => asBool v63 fun b65 => asCons l64 fun v66 l67 => asInt .i64 v66 fun i68 => asCons l67 fun v69 l70 => asInt .i64 v69 fun i71 => asNil l70 (.ret .ret [(.int .i64 i30), (.bool b65), (.int .i64 i68), (.int .i64 i71)])) (sw e61 .normal (asCons l62 fun v72 l73 => asBool v72 fun b74 => asCons l73 fun v75 l76 => asInt .i64 v75 fun i77 => asCons l76 fun v78 l79 => asInt .i64 v78 fun i80 => asNil l79 (.ret .normal [(.int .i64 (wi64 (i30 + 1))), (.bool b74), (.int .i64 i77), (.int .i64 i80)])) (.fail))

noncomputable def T91b0 (a9 : Addr) (i13 : Int) (s6 : ByteArray) : List Value → Pg :=
  fun l27 => asCons l27 fun v28 l29 => asInt .i64 v28 fun i30 => asCons l29 fun v31 l32 => asBool v31 fun b33 => asCons l32 fun v34 l35 => asInt .i64 v34 fun i36 => asCons l35 fun v37 l38 => asInt .i64 v37 fun i39 => asNil l38 (.act (ld1 (aadd a9 1)) fun v40 => asSlice v40 fun p41 n42 n43 => asSome p41 fun a44 => grd ((decide (0 ≤ i13)) && (decide (i13 < ((n42 : Nat) : Int)))) (.act (ld1 (aadd (aadd a44 ((Int.toNat i13) * 2)) 1)) fun v45 => asSlice v45 fun p46 n47 n48 => bif (decide (i30 < ((n47 : Nat) : Int))) then (.join (.act (ld1 (aadd a9 1)) fun v49 => asSlice v49 fun p50 n51 n52 => asSome p50 fun a53 => grd ((decide (0 ≤ i13)) && (decide (i13 < ((n51 : Nat) : Int)))) (.act (ld1 (aadd (aadd a53 ((Int.toNat i13) * 2)) 1)) fun v54 => asSlice v54 fun p55 n56 n57 => asSome p55 fun a58 => grd ((decide (0 ≤ i30)) && (decide (i30 < ((n56 : Nat) : Int)))) (.act (ld1 (aadd (aadd a58 ((Int.toNat i30) * 2)) 0)) fun v59 => asStr v59 fun s60 => bif (s60.toList == s6.toList) then (.ret .ret [(.bool true), (.int .i64 i30), (.int .i64 i13)]) else (.ret .normal [(.bool b33), (.int .i64 i36), (.int .i64 i39)])))) (T91k0 i30)) else (.ret (.exit 2) [(.int .i64 i30), (.bool b33), (.int .i64 i36), (.int .i64 i39)])))

noncomputable def T91k1 : Ex → List Value → Pg :=
  fun e81 l82 => sw e81 (.exit 2) (asCons l82 fun v83 l84 => asInt .i64 v83 fun i85 => asCons l84 fun v86 l87 => asBool v86 fun b88 => asCons l87 fun v89 l90 => asInt .i64 v89 fun i91 => asCons l90 fun v92 l93 => asInt .i64 v92 fun i94 => asNil l93 (.ret .normal [(.bool b88), (.int .i64 i91), (.int .i64 i94)])) (sw e81 .ret (asCons l82 fun v95 l96 => asInt .i64 v95 fun i97 => asCons l96 fun v98 l99 => asBool v98 fun b100 => asCons l99 fun v101 l102 => asInt .i64 v101 fun i103 => asCons l102 fun v104 l105 => asInt .i64 v104 fun i106 => asNil l105 (.ret .ret [(.bool b100), (.int .i64 i103), (.int .i64 i106)])) (.fail))

noncomputable def T91k2 (i13 : Int) : Ex → List Value → Pg :=
  fun e107 l108 => sw e107 .ret (asCons l108 fun v109 l110 => asBool v109 fun b111 => asCons l110 fun v112 l113 => asInt .i64 v112 fun i114 => asCons l113 fun v115 l116 => asInt .i64 v115 fun i117 => asNil l116 (.ret .ret [(.int .i64 i13), (.bool b111), (.int .i64 i114), (.int .i64 i117)])) (sw e107 .normal (asCons l108 fun v118 l119 => asBool v118 fun b120 => asCons l119 fun v121 l122 => asInt .i64 v121 fun i123 => asCons l122 fun v124 l125 => asInt .i64 v124 fun i126 => asNil l125 (.ret .normal [(.int .i64 (wi64 (i13 + 1))), (.bool b120), (.int .i64 i123), (.int .i64 i126)])) (.fail))

noncomputable def T91b1 (a9 : Addr) (s6 : ByteArray) : List Value → Pg :=
  fun l10 => asCons l10 fun v11 l12 => asInt .i64 v11 fun i13 => asCons l12 fun v14 l15 => asBool v14 fun b16 => asCons l15 fun v17 l18 => asInt .i64 v17 fun i19 => asCons l18 fun v20 l21 => asInt .i64 v20 fun i22 => asNil l21 (.act (ld1 (aadd a9 1)) fun v23 => asSlice v23 fun p24 n25 n26 => bif (decide (i13 < ((n25 : Nat) : Int))) then (.join (.loop [(.int .i64 0), (.bool b16), (.int .i64 i19), (.int .i64 i22)] (T91b0 a9 i13 s6) (T91k1)) (T91k2 i13)) else (.ret (.exit 0) [(.int .i64 i13), (.bool b16), (.int .i64 i19), (.int .i64 i22)]))

noncomputable def T91k3 : Ex → List Value → Pg :=
  fun e127 l128 => sw e127 (.exit 0) (asCons l128 fun v129 l130 => asInt .i64 v129 fun i131 => asCons l130 fun v132 l133 => asBool v132 fun b134 => asCons l133 fun v135 l136 => asInt .i64 v135 fun i137 => asCons l136 fun v138 l139 => asInt .i64 v138 fun i140 => asNil l139 (.ret .ret [(.tuple #[(.int .i64 0), (.int .i64 0), (.bool false)])])) (sw e127 .ret (asCons l128 fun v141 l142 => asInt .i64 v141 fun i143 => asCons l142 fun v144 l145 => asBool v144 fun b146 => asCons l145 fun v147 l148 => asInt .i64 v147 fun i149 => asCons l148 fun v150 l151 => asInt .i64 v150 fun i152 => asNil l151 (.ret .ret [(.tuple #[(.int .i64 i152), (.int .i64 i149), (.bool b146)])])) (.fail))

/-- (hindsight/hindsightref3.Tree).Of -/
noncomputable def T91 (p0 : (Option Addr)) (n1 : Nat) (n2 : Nat) (p3 : (Option Addr)) (n4 : Nat) (n5 : Nat) (s6 : ByteArray) : Pg :=
  .act (newC [(.slice p0 n1 n2), (.slice p3 n4 n5)]) fun v7 => asPtr v7 fun p8 => asSome p8 fun a9 => .loop [(.int .i64 0), (.bool false), (.int .i64 0), (.int .i64 0)] (T91b1 a9 s6) (T91k3)
theorem T91_eq (p0 : (Option Addr)) (n1 : Nat) (n2 : Nat) (p3 : (Option Addr)) (n4 : Nat) (n5 : Nat) (s6 : ByteArray) : progOf PROG false 91 [(.agg #[(.slice p0 n1 n2), (.slice p3 n4 n5)]), (.string s6)] = T91 p0 n1 n2 p3 n4 n5 s6 := by kernel_rfl


noncomputable def T92k0 : Ex → List Value → Pg :=
  fun e118 l119 => sw e118 .normal (asCons l119 fun v120 l121 => asSlice v120 fun p122 n123 n124 => asNil l121 (.ret .normal [(.slice p122 n123 n124)])) (.fail)

noncomputable def T92k1 (a9 : Addr) (a42 : Addr) (i56 : Int) (p59 : (Option Addr)) (n60 : Nat) (n61 : Nat) : Ex → List Value → Pg :=
  fun e86 l87 => sw e86 .normal (asCons l87 fun v88 l89 => asBool v88 fun b90 => asNil l89 (.join (bif b90 then (.act (ldN 2 a9) fun v91 => asAgg v91 fun l92 => asCons l92 fun v93 l94 => asSlice v93 fun p95 n96 n97 => asCons l94 fun v98 l99 => asSlice v98 fun p100 n101 n102 => asNil l99 (.act (ld1 (aadd a42 4)) fun v103 => asSlice v103 fun p104 n105 n106 => asSome p104 fun a107 => grd ((decide (0 ≤ i56)) && (decide (i56 < ((n105 : Nat) : Int)))) (.act (ld1 (aadd a107 ((Int.toNat i56) * 1))) fun v108 => asInt .i64 v108 fun i109 => .call 92 [(.agg #[(.slice p95 n96 n97), (.slice p100 n101 n102)]), (.int .i64 i109)] fun v110 => asSlice v110 fun p111 n112 n113 => .act (apS 1 16 p59 n60 n61 p111 n112 n113) fun v114 => asSlice v114 fun p115 n116 n117 => .ret .normal [(.slice p115 n116 n117)]))) else (.ret .normal [(.slice p59 n60 n61)])) (T92k0))) (.fail)

noncomputable def T92k2 (i56 : Int) : Ex → List Value → Pg :=
  fun e125 l126 => sw e125 .normal (asCons l126 fun v127 l128 => asSlice v127 fun p129 n130 n131 => asNil l128 (.ret .normal [(.int .i64 (wi64 (i56 + 1))), (.slice p129 n130 n131)])) (.fail)

noncomputable def T92b0 (a42 : Addr) (i6 : Int) (a9 : Addr) : List Value → Pg :=
  fun l53 => asCons l53 fun v54 l55 => asInt .i64 v54 fun i56 => asCons l55 fun v57 l58 => asSlice v57 fun p59 n60 n61 => asNil l58 (.act (ld1 (aadd a42 4)) fun v62 => asSlice v62 fun p63 n64 n65 => bif (decide (i56 < ((n64 : Nat) : Int))) then (.join (.join (.act (ld1 (aadd a42 4)) fun v66 => asSlice v66 fun p67 n68 n69 => asSome p67 fun a70 => grd ((decide (0 ≤ i56)) && (decide (i56 < ((n68 : Nat) : Int)))) (.act (ld1 (aadd a70 ((Int.toNat i56) * 1))) fun v71 => asInt .i64 v71 fun i72 => bif (decide (i72 > i6)) == true then (.act (ld1 (aadd a42 4)) fun v73 => asSlice v73 fun p74 n75 n76 => asSome p74 fun a77 => grd ((decide (0 ≤ i56)) && (decide (i56 < ((n75 : Nat) : Int)))) (.act (ld1 (aadd a77 ((Int.toNat i56) * 1))) fun v78 => asInt .i64 v78 fun i79 => .act (ld1 (aadd a9 0)) fun v80 => asSlice v80 fun p81 n82 n83 => bif (decide (i79 < ((n82 : Nat) : Int))) == true then (.act (ld1 (aadd a42 0)) fun v84 => asInt .i64 v84 fun i85 => .ret .normal [(.bool (i85 == 26))]) else (.ret .normal [(.bool false)]))) else (.ret .normal [(.bool false)]))) (T92k1 a9 a42 i56 p59 n60 n61)) (T92k2 i56)) else (.ret (.exit 0) [(.int .i64 i56), (.slice p59 n60 n61)]))

noncomputable def T92k3 : Ex → List Value → Pg :=
  fun e132 l133 => sw e132 (.exit 0) (asCons l133 fun v134 l135 => asInt .i64 v134 fun i136 => asCons l135 fun v137 l138 => asSlice v137 fun p139 n140 n141 => asNil l138 (.ret .ret [(.slice p139 n140 n141)])) (.fail)

/-- (hindsight/hindsightref3.Tree).binds -/
noncomputable def T92 (p0 : (Option Addr)) (n1 : Nat) (n2 : Nat) (p3 : (Option Addr)) (n4 : Nat) (n5 : Nat) (i6 : Int) : Pg :=
  .act (newC [(.slice p0 n1 n2), (.slice p3 n4 n5)]) fun v7 => asPtr v7 fun p8 => asSome p8 fun a9 => .act (ld1 (aadd a9 0)) fun v10 => asSlice v10 fun p11 n12 n13 => asSome p11 fun a14 => grd ((decide (0 ≤ i6)) && (decide (i6 < ((n12 : Nat) : Int)))) (.act (ldN 7 (aadd a14 ((Int.toNat i6) * 7))) fun v15 => asAgg v15 fun l16 => asCons l16 fun v17 l18 => asInt .i64 v17 fun i19 => asCons l18 fun v20 l21 => asInt .i64 v20 fun i22 => asCons l21 fun v23 l24 => asStr v23 fun s25 => asCons l24 fun v26 l27 => asStr v26 fun s28 => asCons l27 fun v29 l30 => asSlice v29 fun p31 n32 n33 => asCons l30 fun v34 l35 => asInt .i64 v34 fun i36 => asCons l35 fun v37 l38 => asInt .i64 v37 fun i39 => asNil l38 (.act (newC [(.int .i64 0), (.int .i64 0), (.string (bs [])), (.string (bs [])), (.slice none 0 0), (.int .i64 0), (.int .i64 0)]) fun v40 => asPtr v40 fun p41 => asSome p41 fun a42 => .act (stC a42 [(.int .i64 i19), (.int .i64 i22), (.string s25), (.string s28), (.slice p31 n32 n33), (.int .i64 i36), (.int .i64 i39)]) fun v43 => asTuple v43 fun l44 => asNil l44 (.act (ld1 (aadd a42 0)) fun v45 => asInt .i64 v45 fun i46 => bif (i46 == 22) then (.act (ld1 (aadd a42 2)) fun v47 => asStr v47 fun s48 => .act (bdSl 1 1 [(.string s48)]) fun v49 => asSlice v49 fun p50 n51 n52 => .ret .ret [(.slice p50 n51 n52)]) else (.loop [(.int .i64 0), (.slice none 0 0)] (T92b0 a42 i6 a9) (T92k3)))))
theorem T92_eq (p0 : (Option Addr)) (n1 : Nat) (n2 : Nat) (p3 : (Option Addr)) (n4 : Nat) (n5 : Nat) (i6 : Int) : progOf PROG false 92 [(.agg #[(.slice p0 n1 n2), (.slice p3 n4 n5)]), (.int .i64 i6)] = T92 p0 n1 n2 p3 n4 n5 i6 := by kernel_rfl


noncomputable def T93k0 : Ex → List Value → Pg :=
  fun e58 l59 => sw e58 .ret (asNil l59 (.ret .ret [])) (sw e58 .normal (asNil l59 (.ret .normal [])) (.fail))

noncomputable def T93k1 : Ex → List Value → Pg :=
  fun e60 l61 => sw e60 .ret (asNil l61 (.ret .ret [])) (sw e60 .normal (asNil l61 (.ret .normal [])) (.fail))

noncomputable def T93k2 (a3 : Addr) : Ex → List Value → Pg :=
  fun e62 l63 => sw e62 .ret (asNil l63 (.act (ldN 4 a3) fun v64 => .ret .ret [v64])) (sw e62 .normal (asNil l63 (.act (stC a3 [(.int .i64 0), (.string (bs [])), (.int .i64 0), (.int .i64 0)]) fun v65 => asTuple v65 fun l66 => asNil l66 (.act (ldN 4 a3) fun v67 => .ret .ret [v67]))) (.fail))

/-- hindsight/lex.word -/
noncomputable def T93 (s0 : ByteArray) : Pg :=
  .act (newC [(.int .i64 0), (.string (bs [])), (.int .i64 0), (.int .i64 0)]) fun v1 => asPtr v1 fun p2 => asSome p2 fun a3 => .call 110 [(.string s0)] fun v4 => asTuple v4 fun l5 => asCons l5 fun v6 l7 => asInt .i32 v6 fun i8 => asCons l7 fun v9 l10 => asInt .i64 v9 fun i11 => asNil l10 (.call 111 [(.int .i32 i8)] fun v12 => asInt .i64 v12 fun i13 => .join (.join (bif (i13 == 1) then (bif (i8 != 39) then (.call 112 [(.string s0)] fun v14 => asAgg v14 fun l15 => asCons l15 fun v16 l17 => asInt .i64 v16 fun i18 => asCons l17 fun v19 l20 => asStr v19 fun s21 => asCons l20 fun v22 l23 => asInt .i64 v22 fun i24 => asCons l23 fun v25 l26 => asInt .i64 v25 fun i27 => asNil l26 (.act (stC a3 [(.int .i64 i18), (.string s21), (.int .i64 i24), (.int .i64 i27)]) fun v28 => asTuple v28 fun l29 => asNil l29 (.ret .ret []))) else (.ret .normal [])) else (.join (bif (i13 == 2) then (.call 113 [(.string s0), (.func (.func 114) #[] #[])] fun v30 => asInt .i64 v30 fun i31 => grd ((decide (0 ≤ i31)) && (decide (i31 ≤ ((s0.size : Nat) : Int)))) (.call 115 [(.string (s0.extract 0 (Int.toNat i31)))] fun v32 => asTuple v32 fun l33 => asCons l33 fun v34 l35 => asInt .i64 v34 fun i36 => asCons l35 fun v37 l38 => asBool v37 fun b39 => asNil l38 (bif b39 then (grd ((decide (0 ≤ i31)) && (decide (i31 ≤ ((s0.size : Nat) : Int)))) (.act (stC a3 [(.int .i64 1), (.string (s0.extract 0 (Int.toNat i31))), (.int .i64 0), (.int .i64 0)]) fun v40 => asTuple v40 fun l41 => asNil l41 (.ret .ret []))) else (.ret .normal [])))) else (bif (i13 == 4) then (.call 116 [(.string s0)] fun v42 => asAgg v42 fun l43 => asCons l43 fun v44 l45 => asInt .i64 v44 fun i46 => asCons l45 fun v47 l48 => asStr v47 fun s49 => asCons l48 fun v50 l51 => asInt .i64 v50 fun i52 => asCons l51 fun v53 l54 => asInt .i64 v53 fun i55 => asNil l54 (.act (stC a3 [(.int .i64 i46), (.string s49), (.int .i64 i52), (.int .i64 i55)]) fun v56 => asTuple v56 fun l57 => asNil l57 (.ret .ret []))) else (.ret .normal []))) (T93k0))) (T93k1)) (T93k2 a3))
theorem T93_eq (s0 : ByteArray) : progOf PROG false 93 [(.string s0)] = T93 s0 := by kernel_rfl


noncomputable def T107k0 : Ex → List Value → Pg :=
  fun e22 l23 => sw e22 .normal (asCons l23 fun v24 l25 => asPtr v24 fun p26 => asNil l25 (.ret .normal [(.pointer p26)])) (sw e22 (.exit 0) (asCons l23 fun v27 l28 => asPtr v27 fun p29 => asNil l28 (.ret (.exit 0) [(.pointer p29)])) (.fail))

noncomputable def T107k1 : Ex → List Value → Pg :=
  fun e30 l31 => sw e30 .normal (asCons l31 fun v32 l33 => asPtr v32 fun p34 => asNil l33 (.ret .normal [(.pointer p34)])) (sw e30 (.exit 0) (asCons l31 fun v35 l36 => asPtr v35 fun p37 => asNil l36 (.ret (.exit 0) [(.pointer p37)])) (.fail))

noncomputable def T107b0 (p0 : (Option Addr)) : List Value → Pg :=
  fun l3 => asCons l3 fun v4 l5 => asPtr v4 fun p6 => asNil l5 (asSome p0 fun a7 => .act (ld1 (aadd a7 3)) fun v8 => asBool v8 fun b9 => bif (!b9) then (.join (.call 64 [(.pointer p0), (.string (bs [43]))] fun v10 => asBool v10 fun b11 => .join (bif b11 then (.call 124 [(.pointer p0)] fun v12 => asPtr v12 fun p13 => .call 68 [(.int .i64 14), (.string (bs [43])), (.pointer p6), (.pointer p13)] fun v14 => asPtr v14 fun p15 => .ret .normal [(.pointer p15)]) else (.call 64 [(.pointer p0), (.string (bs [45]))] fun v16 => asBool v16 fun b17 => bif b17 then (.call 124 [(.pointer p0)] fun v18 => asPtr v18 fun p19 => .call 68 [(.int .i64 14), (.string (bs [45])), (.pointer p6), (.pointer p19)] fun v20 => asPtr v20 fun p21 => .ret .normal [(.pointer p21)]) else (.ret (.exit 0) [(.pointer p6)]))) (T107k0)) (T107k1)) else (.ret (.exit 0) [(.pointer p6)]))

noncomputable def T107k2 : Ex → List Value → Pg :=
  fun e38 l39 => sw e38 (.exit 0) (asCons l39 fun v40 l41 => asPtr v40 fun p42 => asNil l41 (.ret .ret [(.pointer p42)])) (.fail)

/-- (*hindsight/hindsightref3.reader).sum -/
noncomputable def T107 (p0 : (Option Addr)) : Pg :=
  .call 124 [(.pointer p0)] fun v1 => asPtr v1 fun p2 => .loop [(.pointer p2)] (T107b0 p0) (T107k2)
theorem T107_eq (p0 : (Option Addr)) : progOf PROG false 107 [(.pointer p0)] = T107 p0 := by kernel_rfl


noncomputable def T108k0 : Ex → List Value → Pg :=
  fun e20 l21 => sw e20 .normal (asCons l21 fun v22 l23 => asBool v22 fun b24 => asNil l23 (.ret .ret [(.bool b24)])) (.fail)

/-- hindsight/hindsightref1.Name -/
noncomputable def T108 (s0 : ByteArray) : Pg :=
  .call 42 [(.string s0)] fun v1 => asTuple v1 fun l2 => asCons l2 fun v3 l4 => asSlice v3 fun p5 n6 n7 => asCons l4 fun v8 l9 => asInt .i64 v8 fun i10 => asCons l9 fun v11 l12 => asInt .i64 v11 fun i13 => asNil l12 (.join (bif (i10 == 0) == true then (bif (((n6 : Nat) : Int) == 1) == true then (asSome p5 fun a14 => grd (decide (0 < ((n6 : Nat) : Int))) (.act (ld1 (aadd (aadd a14 0) 0)) fun v15 => asInt .i64 v15 fun i16 => bif (i16 == 2) == true then (asSome p5 fun a17 => grd (decide (0 < ((n6 : Nat) : Int))) (.act (ld1 (aadd (aadd a17 0) 1)) fun v18 => asStr v18 fun s19 => .ret .normal [(.bool (s19.toList == s0.toList))])) else (.ret .normal [(.bool false)]))) else (.ret .normal [(.bool false)])) else (.ret .normal [(.bool false)])) (T108k0))
theorem T108_eq (s0 : ByteArray) : progOf PROG false 108 [(.string s0)] = T108 s0 := by kernel_rfl


/-- hindsight/hindsightref3.most -/
noncomputable def T109 : Pg :=
  .ret .ret [(.int .i64 4611686018427387903)]
theorem T109_eq : progOf PROG false 109 [] = T109 := by kernel_rfl


noncomputable def T110k0 (s0 : ByteArray) : Ex → List Value → Pg :=
  fun e1 l2 => sw e1 .normal (asCons l2 fun v3 l4 => asBool v3 fun b5 => asNil l4 (bif b5 then (grd (decide (0 < ((s0.size : Nat) : Int))) (.ret .ret [(.tuple #[(.int .i32 (wi32 (byteAt s0 0))), (.int .i64 1)])])) else (.call 125 [(.string s0)] fun v6 => asTuple v6 fun l7 => asCons l7 fun v8 l9 => asInt .i32 v8 fun i10 => asCons l9 fun v11 l12 => asInt .i64 v11 fun i13 => asNil l12 (.ret .ret [(.tuple #[(.int .i32 i10), (.int .i64 i13)])])))) (.fail)

/-- unicode/utf8.DecodeRuneInString -/
noncomputable def T110 (s0 : ByteArray) : Pg :=
  .join (bif (!(s0.toList == (bs []).toList)) == true then (grd (decide (0 < ((s0.size : Nat) : Int))) (.ret .normal [(.bool (decide ((byteAt s0 0) < 128)))])) else (.ret .normal [(.bool false)])) (T110k0 s0)
theorem T110_eq (s0 : ByteArray) : progOf PROG false 110 [(.string s0)] = T110 s0 := by kernel_rfl


noncomputable def T111k0 (i0 : Int) : Ex → List Value → Pg :=
  fun e3 l4 => sw e3 .normal (asCons l4 fun v5 l6 => asBool v5 fun b7 => asNil l6 (bif b7 then (.ret .ret [(.int .i64 1)]) else (bif ((decide (i0 ≥ 48)) && (decide (i0 ≤ 57))) then (.ret .ret [(.int .i64 2)]) else (.ret .normal [(.int .i64 0)])))) (.fail)

noncomputable def T111k1 : Ex → List Value → Pg :=
  fun e16 l17 => sw e16 .normal (asCons l17 fun v18 l19 => asBool v18 fun b20 => asNil l19 (.ret .normal [(.bool b20)])) (.fail)

noncomputable def T111k2 : Ex → List Value → Pg :=
  fun e21 l22 => sw e21 .normal (asCons l22 fun v23 l24 => asBool v23 fun b25 => asNil l24 (.ret .normal [(.bool b25)])) (.fail)

noncomputable def T111k3 : Ex → List Value → Pg :=
  fun e31 l32 => sw e31 .normal (asCons l32 fun v33 l34 => asBool v33 fun b35 => asNil l34 (.ret .normal [(.bool b35)])) (.fail)

noncomputable def T111k4 : Ex → List Value → Pg :=
  fun e36 l37 => sw e36 .normal (asCons l37 fun v38 l39 => asBool v38 fun b40 => asNil l39 (.ret .normal [(.bool b40)])) (.fail)

noncomputable def T111k5 : Ex → List Value → Pg :=
  fun e41 l42 => sw e41 .normal (asCons l42 fun v43 l44 => asBool v43 fun b45 => asNil l44 (.ret .normal [(.bool b45)])) (.fail)

noncomputable def T111k6 : Ex → List Value → Pg :=
  fun e46 l47 => sw e46 .normal (asCons l47 fun v48 l49 => asBool v48 fun b50 => asNil l49 (.ret .normal [(.bool b50)])) (.fail)

noncomputable def T111k7 : Ex → List Value → Pg :=
  fun e51 l52 => sw e51 .normal (asCons l52 fun v53 l54 => asBool v53 fun b55 => asNil l54 (.ret .normal [(.bool b55)])) (.fail)

noncomputable def T111k8 : Ex → List Value → Pg :=
  fun e56 l57 => sw e56 .normal (asCons l57 fun v58 l59 => asBool v58 fun b60 => asNil l59 (.ret .normal [(.bool b60)])) (.fail)

noncomputable def T111k9 : Ex → List Value → Pg :=
  fun e61 l62 => sw e61 .normal (asCons l62 fun v63 l64 => asBool v63 fun b65 => asNil l64 (.ret .normal [(.bool b65)])) (.fail)

noncomputable def T111k10 : Ex → List Value → Pg :=
  fun e66 l67 => sw e66 .normal (asCons l67 fun v68 l69 => asBool v68 fun b70 => asNil l69 (.ret .normal [(.bool b70)])) (.fail)

noncomputable def T111k11 : Ex → List Value → Pg :=
  fun e71 l72 => sw e71 .normal (asCons l72 fun v73 l74 => asBool v73 fun b75 => asNil l74 (.ret .normal [(.bool b75)])) (.fail)

noncomputable def T111k12 : Ex → List Value → Pg :=
  fun e76 l77 => sw e76 .normal (asCons l77 fun v78 l79 => asBool v78 fun b80 => asNil l79 (.ret .normal [(.bool b80)])) (.fail)

noncomputable def T111k13 : Ex → List Value → Pg :=
  fun e81 l82 => sw e81 .normal (asCons l82 fun v83 l84 => asBool v83 fun b85 => asNil l84 (.ret .normal [(.bool b85)])) (.fail)

noncomputable def T111k14 (i15 : Int) : Ex → List Value → Pg :=
  fun e86 l87 => sw e86 .normal (asCons l87 fun v88 l89 => asBool v88 fun b90 => asNil l89 (bif b90 then (.ret .ret [(.int .i64 4)]) else (.ret .normal [(.int .i64 i15)]))) (.fail)

noncomputable def T111k15 (i0 : Int) (i15 : Int) : Ex → List Value → Pg :=
  fun e26 l27 => sw e26 .normal (asCons l27 fun v28 l29 => asBool v28 fun b30 => asNil l29 (bif b30 then (.ret .ret [(.int .i64 3)]) else (.join (bif (i0 == 40) then (.ret .normal [(.bool (i0 == 40))]) else (.join (bif (i0 == 41) then (.ret .normal [(.bool (i0 == 41))]) else (.join (bif (i0 == 44) then (.ret .normal [(.bool (i0 == 44))]) else (.join (bif (i0 == 59) then (.ret .normal [(.bool (i0 == 59))]) else (.join (bif (i0 == 61) then (.ret .normal [(.bool (i0 == 61))]) else (.join (bif (i0 == 60) then (.ret .normal [(.bool (i0 == 60))]) else (.join (bif (i0 == 62) then (.ret .normal [(.bool (i0 == 62))]) else (.join (bif (i0 == 43) then (.ret .normal [(.bool (i0 == 43))]) else (.join (bif (i0 == 45) then (.ret .normal [(.bool (i0 == 45))]) else (.join (bif (i0 == 42) then (.ret .normal [(.bool (i0 == 42))]) else (.join (bif (i0 == 124) then (.ret .normal [(.bool (i0 == 124))]) else (.join (bif (i0 == 33) then (.ret .normal [(.bool (i0 == 33))]) else (.ret .normal [(.bool (i0 == 58))])) (T111k3))) (T111k4))) (T111k5))) (T111k6))) (T111k7))) (T111k8))) (T111k9))) (T111k10))) (T111k11))) (T111k12))) (T111k13))) (T111k14 i15)))) (.fail)

noncomputable def T111k16 : Ex → List Value → Pg :=
  fun e91 l92 => sw e91 .ret (asCons l92 fun v93 l94 => asInt .i64 v93 fun i95 => asNil l94 (.ret .ret [(.int .i64 i95)])) (sw e91 .normal (asCons l92 fun v96 l97 => asInt .i64 v96 fun i98 => asNil l97 (.ret .ret [(.int .i64 0)])) (.fail))

noncomputable def T111k17 (i0 : Int) : Ex → List Value → Pg :=
  fun e8 l9 => sw e8 .ret (asCons l9 fun v10 l11 => asInt .i64 v10 fun i12 => asNil l11 (.ret .ret [(.int .i64 i12)])) (sw e8 .normal (asCons l9 fun v13 l14 => asInt .i64 v13 fun i15 => asNil l14 (.join (.join (bif (i0 == 32) then (.ret .normal [(.bool (i0 == 32))]) else (.join (bif (i0 == 9) then (.ret .normal [(.bool (i0 == 9))]) else (.join (bif (i0 == 10) then (.ret .normal [(.bool (i0 == 10))]) else (.ret .normal [(.bool (i0 == 13))])) (T111k1))) (T111k2))) (T111k15 i0 i15)) (T111k16))) (.fail))

/-- hindsight/chars.Class -/
noncomputable def T111 (i0 : Int) : Pg :=
  .join (.join (bif ((i0 == 95) || (i0 == 39)) == false then (.call 80 [(.int .i32 i0)] fun v1 => asBool v1 fun b2 => .ret .normal [(.bool b2)]) else (.ret .normal [(.bool true)])) (T111k0 i0)) (T111k17 i0)
theorem T111_eq (i0 : Int) : progOf PROG false 111 [(.int .i32 i0)] = T111 i0 := by kernel_rfl


noncomputable def T112k0 : Ex → List Value → Pg :=
  fun e21 l22 => sw e21 .normal (asNil l22 (.ret .normal [])) (.fail)

noncomputable def T112k1 : Ex → List Value → Pg :=
  fun e23 l24 => sw e23 .normal (asNil l24 (.ret .normal [])) (.fail)

noncomputable def T112k2 (a8 : Addr) (a3 : Addr) : Ex → List Value → Pg :=
  fun e25 l26 => sw e25 .normal (asNil l26 (.act (ldN 4 a8) fun v27 => asAgg v27 fun l28 => asCons l28 fun v29 l30 => asInt .i64 v29 fun i31 => asCons l30 fun v32 l33 => asStr v32 fun s34 => asCons l33 fun v35 l36 => asInt .i64 v35 fun i37 => asCons l36 fun v38 l39 => asInt .i64 v38 fun i40 => asNil l39 (.act (stC a3 [(.int .i64 i31), (.string s34), (.int .i64 i37), (.int .i64 i40)]) fun v41 => asTuple v41 fun l42 => asNil l42 (.act (ldN 4 a3) fun v43 => .ret .ret [v43])))) (.fail)

/-- hindsight/lex.named -/
noncomputable def T112 (s0 : ByteArray) : Pg :=
  .act (newC [(.int .i64 0), (.string (bs [])), (.int .i64 0), (.int .i64 0)]) fun v1 => asPtr v1 fun p2 => asSome p2 fun a3 => .call 113 [(.string s0), (.func (.func 126) #[] #[])] fun v4 => asInt .i64 v4 fun i5 => grd ((decide (0 ≤ i5)) && (decide (i5 ≤ ((s0.size : Nat) : Int)))) (.act (newC [(.int .i64 0), (.string (bs [])), (.int .i64 0), (.int .i64 0)]) fun v6 => asPtr v6 fun p7 => asSome p7 fun a8 => .act (stC a8 [(.int .i64 2), (.string (s0.extract 0 (Int.toNat i5))), (.int .i64 0), (.int .i64 0)]) fun v9 => asTuple v9 fun l10 => asNil l10 (.join (.call 127 [(.string s0)] fun v11 => asBool v11 fun b12 => .join (bif b12 then (.act (stC (aadd a8 0) [(.int .i64 3)]) fun v13 => asTuple v13 fun l14 => asNil l14 (.ret .normal [])) else (.act (ld1 (aadd a8 1)) fun v15 => asStr v15 fun s16 => .call 128 [(.string s16)] fun v17 => asBool v17 fun b18 => .join (bif b18 then (.act (stC (aadd a8 0) [(.int .i64 4)]) fun v19 => asTuple v19 fun l20 => asNil l20 (.ret .normal [])) else (.ret .normal [])) (T112k0))) (T112k1)) (T112k2 a8 a3)))
theorem T112_eq (s0 : ByteArray) : progOf PROG false 112 [(.string s0)] = T112 s0 := by kernel_rfl


noncomputable def T113k0 : Ex → List Value → Pg :=
  fun e17 l18 => sw e17 .ret (asCons l18 fun v19 l20 => asInt .i64 v19 fun i21 => asNil l20 (.ret .ret [(.int .i64 i21)])) (sw e17 .normal (asCons l18 fun v22 l23 => asInt .i64 v22 fun i24 => asNil l23 (.ret .normal [(.int .i64 i24)])) (.fail))

noncomputable def T113b0 (a4 : Addr) (v1 : Value) : List Value → Pg :=
  fun l5 => asCons l5 fun v6 l7 => asInt .i64 v6 fun i8 => asNil l7 (.act (nxt (some a4)) fun v9 => asNx v9 (fun i10 i11 => .join (asFunc v1 fun n12 l13 l14 => .call n12 (l13 ++ [(.int .i32 i11)] ++ l14) fun v15 => asBool v15 fun b16 => bif (!b16) then (.ret .ret [(.int .i64 i10)]) else (.ret .normal [(.int .i64 i8)])) (T113k0)) (.ret (.exit 0) [(.int .i64 i8)]))

noncomputable def T113k1 (s0 : ByteArray) : Ex → List Value → Pg :=
  fun e25 l26 => sw e25 (.exit 0) (asCons l26 fun v27 l28 => asInt .i64 v27 fun i29 => asNil l28 (.ret .ret [(.int .i64 ((s0.size : Nat) : Int))])) (sw e25 .ret (asCons l26 fun v30 l31 => asInt .i64 v30 fun i32 => asNil l31 (.ret .ret [(.int .i64 i32)])) (.fail))

/-- hindsight/lex.run -/
noncomputable def T113 (s0 : ByteArray) (v1 : Value) : Pg :=
  .act (rng s0) fun v2 => asPtr v2 fun p3 => asSome p3 fun a4 => .loop [(.int .i64 0)] (T113b0 a4 v1) (T113k1 s0)
theorem T113_eq (s0 : ByteArray) (v1 : Value) : progOf PROG false 113 [(.string s0), v1] = T113 s0 v1 := by kernel_rfl


/-- hindsight/lex.word$1 -/
noncomputable def T114 (i0 : Int) : Pg :=
  .call 111 [(.int .i32 i0)] fun v1 => asInt .i64 v1 fun i2 => .ret .ret [(.bool (i2 == 2))]
theorem T114_eq (i0 : Int) : progOf PROG false 114 [(.int .i32 i0)] = T114 i0 := by kernel_rfl


noncomputable def T115k0 : Ex → List Value → Pg :=
  fun e17 l18 => sw e17 .ret (asCons l18 fun v19 l20 => asInt .i64 v19 fun i21 => asCons l20 fun v22 l23 => asBool v22 fun b24 => asCons l23 fun v25 l26 => asInt .i64 v25 fun i27 => asNil l26 (.ret .ret [(.int .i64 i21), (.bool b24), (.int .i64 i27)])) (sw e17 .normal (asCons l18 fun v28 l29 => asInt .i64 v28 fun i30 => asCons l29 fun v31 l32 => asBool v31 fun b33 => asCons l32 fun v34 l35 => asInt .i64 v34 fun i36 => asNil l35 (.ret .normal [(.int .i64 i30), (.bool b33), (.int .i64 i36)])) (.fail))

noncomputable def T115b0 (a3 : Addr) : List Value → Pg :=
  fun l4 => asCons l4 fun v5 l6 => asInt .i64 v5 fun i7 => asCons l6 fun v8 l9 => asBool v8 fun b10 => asCons l9 fun v11 l12 => asInt .i64 v11 fun i13 => asNil l12 (.act (nxt (some a3)) fun v14 => asNx v14 (fun i15 i16 => .join (bif (decide (i7 > (wi64 (Int.tdiv (wi64 (4611686018427387903 - (wi64 (wi32 (i16 - 48))))) 10)))) then (.ret .ret [(.int .i64 i7), (.bool false), (.int .i64 0)]) else (.ret .normal [(.int .i64 (wi64 ((wi64 (10 * i7)) + (wi64 (wi32 (i16 - 48)))))), (.bool b10), (.int .i64 i13)])) (T115k0)) (.ret (.exit 0) [(.int .i64 i7), (.bool b10), (.int .i64 i13)]))

noncomputable def T115k1 : Ex → List Value → Pg :=
  fun e37 l38 => sw e37 (.exit 0) (asCons l38 fun v39 l40 => asInt .i64 v39 fun i41 => asCons l40 fun v42 l43 => asBool v42 fun b44 => asCons l43 fun v45 l46 => asInt .i64 v45 fun i47 => asNil l46 (.ret .ret [(.tuple #[(.int .i64 i41), (.bool true)])])) (sw e37 .ret (asCons l38 fun v48 l49 => asInt .i64 v48 fun i50 => asCons l49 fun v51 l52 => asBool v51 fun b53 => asCons l52 fun v54 l55 => asInt .i64 v54 fun i56 => asNil l55 (.ret .ret [(.tuple #[(.int .i64 i56), (.bool b53)])])) (.fail))

/-- hindsight/lex.Value -/
noncomputable def T115 (s0 : ByteArray) : Pg :=
  .act (rng s0) fun v1 => asPtr v1 fun p2 => asSome p2 fun a3 => .loop [(.int .i64 0), (.bool false), (.int .i64 0)] (T115b0 a3) (T115k1)
theorem T115_eq (s0 : ByteArray) : progOf PROG false 115 [(.string s0)] = T115 s0 := by kernel_rfl


noncomputable def T116k0 (i11 : Int) : Ex → List Value → Pg :=
  fun e19 l20 => sw e19 .ret (asNil l20 (.ret .ret [(.int .i64 i11)])) (sw e19 .normal (asNil l20 (.ret .normal [(.int .i64 (wi64 (i11 + 1)))])) (.fail))

noncomputable def T116b0 (n6 : Nat) (p5 : (Option Addr)) (s0 : ByteArray) (a3 : Addr) : List Value → Pg :=
  fun l8 => asCons l8 fun v9 l10 => asInt .i64 v9 fun i11 => asNil l10 (bif (decide (i11 < ((n6 : Nat) : Int))) then (.join (asSome p5 fun a12 => grd ((decide (0 ≤ i11)) && (decide (i11 < ((n6 : Nat) : Int)))) (.act (ld1 (aadd a12 ((Int.toNat i11) * 1))) fun v13 => asStr v13 fun s14 => .call 129 [(.string s0), (.string s14)] fun v15 => asBool v15 fun b16 => bif b16 then (.act (stC a3 [(.int .i64 5), (.string s14), (.int .i64 0), (.int .i64 0)]) fun v17 => asTuple v17 fun l18 => asNil l18 (.ret .ret [])) else (.ret .normal []))) (T116k0 i11)) else (.ret (.exit 0) [(.int .i64 i11)]))

noncomputable def T116k1 (a3 : Addr) (s0 : ByteArray) : Ex → List Value → Pg :=
  fun e26 l27 => sw e26 .normal (asCons l27 fun v28 l29 => asBool v28 fun b30 => asNil l29 (bif b30 then (.act (stC a3 [(.int .i64 0), (.string (bs [])), (.int .i64 0), (.int .i64 0)]) fun v31 => asTuple v31 fun l32 => asNil l32 (.act (ldN 4 a3) fun v33 => .ret .ret [v33])) else (grd (decide (1 ≤ ((s0.size : Nat) : Int))) (.act (stC a3 [(.int .i64 5), (.string (s0.extract 0 1)), (.int .i64 0), (.int .i64 0)]) fun v34 => asTuple v34 fun l35 => asNil l35 (.act (ldN 4 a3) fun v36 => .ret .ret [v36]))))) (.fail)

noncomputable def T116k2 (s0 : ByteArray) (a3 : Addr) : Ex → List Value → Pg :=
  fun e21 l22 => sw e21 (.exit 0) (asCons l22 fun v23 l24 => asInt .i64 v23 fun i25 => asNil l24 (.join (grd (decide (0 < ((s0.size : Nat) : Int))) (bif ((byteAt s0 0) == 62) == false then (grd (decide (0 < ((s0.size : Nat) : Int))) (.ret .normal [(.bool ((byteAt s0 0) == 58))])) else (.ret .normal [(.bool true)]))) (T116k1 a3 s0))) (sw e21 .ret (asCons l22 fun v37 l38 => asInt .i64 v37 fun i39 => asNil l38 (.act (ldN 4 a3) fun v40 => .ret .ret [v40])) (.fail))

/-- hindsight/lex.marked -/
noncomputable def T116 (s0 : ByteArray) : Pg :=
  .act (newC [(.int .i64 0), (.string (bs [])), (.int .i64 0), (.int .i64 0)]) fun v1 => asPtr v1 fun p2 => asSome p2 fun a3 => .act (bdSl 1 2 [(.string (bs [58, 61])), (.string (bs [45, 62]))]) fun v4 => asSlice v4 fun p5 n6 n7 => .loop [(.int .i64 0)] (T116b0 n6 p5 s0 a3) (T116k2 s0 a3)
theorem T116_eq (s0 : ByteArray) : progOf PROG false 116 [(.string s0)] = T116 s0 := by kernel_rfl


noncomputable def T124k0 : Ex → List Value → Pg :=
  fun e13 l14 => sw e13 .normal (asCons l14 fun v15 l16 => asPtr v15 fun p17 => asNil l16 (.ret .normal [(.pointer p17)])) (.fail)

noncomputable def T124b0 (p0 : (Option Addr)) : List Value → Pg :=
  fun l3 => asCons l3 fun v4 l5 => asPtr v4 fun p6 => asNil l5 (.call 64 [(.pointer p0), (.string (bs [42]))] fun v7 => asBool v7 fun b8 => bif b8 then (.join (.call 131 [(.pointer p0)] fun v9 => asPtr v9 fun p10 => .call 68 [(.int .i64 14), (.string (bs [42])), (.pointer p6), (.pointer p10)] fun v11 => asPtr v11 fun p12 => .ret .normal [(.pointer p12)]) (T124k0)) else (.ret (.exit 0) [(.pointer p6)]))

noncomputable def T124k1 : Ex → List Value → Pg :=
  fun e18 l19 => sw e18 (.exit 0) (asCons l19 fun v20 l21 => asPtr v20 fun p22 => asNil l21 (.ret .ret [(.pointer p22)])) (.fail)

/-- (*hindsight/hindsightref3.reader).mul -/
noncomputable def T124 (p0 : (Option Addr)) : Pg :=
  .call 131 [(.pointer p0)] fun v1 => asPtr v1 fun p2 => .loop [(.pointer p2)] (T124b0 p0) (T124k1)
theorem T124_eq (p0 : (Option Addr)) : progOf PROG false 124 [(.pointer p0)] = T124 p0 := by kernel_rfl


noncomputable def T125k0 (i2 : Int) (s0 : ByteArray) : Ex → List Value → Pg :=
  fun e20 l21 => sw e20 .normal (asCons l21 fun v22 l23 => asBool v22 fun b24 => asNil l23 (bif b24 then (.ret .ret [(.tuple #[(.int .i32 65533), (.int .i64 1)])]) else (bif (decide ((wi64 (andI .u8 i2 7)) ≤ 2)) then (.ret .ret [(.tuple #[(.int .i32 (orI .i32 (shlI .i32 (wi32 (andI .u8 (byteAt s0 0) 31)) 6) (wi32 (andI .u8 (byteAt s0 1) 63)))), (.int .i64 2)])]) else (grd (decide (2 < ((s0.size : Nat) : Int))) (bif ((decide ((byteAt s0 2) < 128)) || (decide (191 < (byteAt s0 2)))) then (.ret .ret [(.tuple #[(.int .i32 65533), (.int .i64 1)])]) else (bif (decide ((wi64 (andI .u8 i2 7)) ≤ 3)) then (.ret .ret [(.tuple #[(.int .i32 (orI .i32 (orI .i32 (shlI .i32 (wi32 (andI .u8 (byteAt s0 0) 15)) 12) (shlI .i32 (wi32 (andI .u8 (byteAt s0 1) 63)) 6)) (wi32 (andI .u8 (byteAt s0 2) 63)))), (.int .i64 3)])]) else (grd (decide (3 < ((s0.size : Nat) : Int))) (bif ((decide ((byteAt s0 3) < 128)) || (decide (191 < (byteAt s0 3)))) then (.ret .ret [(.tuple #[(.int .i32 65533), (.int .i64 1)])]) else (.ret .ret [(.tuple #[(.int .i32 (orI .i32 (orI .i32 (orI .i32 (shlI .i32 (wi32 (andI .u8 (byteAt s0 0) 7)) 18) (shlI .i32 (wi32 (andI .u8 (byteAt s0 1) 63)) 12)) (shlI .i32 (wi32 (andI .u8 (byteAt s0 2) 63)) 6)) (wi32 (andI .u8 (byteAt s0 3) 63)))), (.int .i64 4)])]))))))))) (.fail)

/-- unicode/utf8.decodeRuneInStringSlow -/
noncomputable def T125 (s0 : ByteArray) : Pg :=
  bif (decide (((s0.size : Nat) : Int) < 1)) then (.ret .ret [(.tuple #[(.int .i32 65533), (.int .i64 0)])]) else (grd (decide (0 < ((s0.size : Nat) : Int))) (grd ((decide (0 ≤ (byteAt s0 0))) && (decide ((byteAt s0 0) < 256))) (.act (ld1 (aadd ⟨3, 0, none⟩ ((Int.toNat (byteAt s0 0)) * 1))) fun v1 => asInt .u8 v1 fun i2 => bif (decide (i2 ≥ 240)) then (grd (decide (0 < ((s0.size : Nat) : Int))) (.ret .ret [(.tuple #[(.int .i32 (orI .i32 (andNotI .i32 (wi32 (byteAt s0 0)) (shrI .i32 (shlI .i32 (wi32 i2) 31) 31)) (andI .i32 65533 (shrI .i32 (shlI .i32 (wi32 i2) 31) 31)))), (.int .i64 1)])])) else (grd ((decide (0 ≤ (shrI .u8 i2 4))) && (decide ((shrI .u8 i2 4) < 16))) (.act (ldN 2 (aadd ⟨4, 0, none⟩ ((Int.toNat (shrI .u8 i2 4)) * 2))) fun v3 => asAgg v3 fun l4 => asCons l4 fun v5 l6 => asInt .u8 v5 fun i7 => asCons l6 fun v8 l9 => asInt .u8 v8 fun i10 => asNil l9 (.act (newC [(.int .u8 0), (.int .u8 0)]) fun v11 => asPtr v11 fun p12 => asSome p12 fun a13 => .act (stC a13 [(.int .u8 i7), (.int .u8 i10)]) fun v14 => asTuple v14 fun l15 => asNil l15 (bif (decide (((s0.size : Nat) : Int) < (wi64 (andI .u8 i2 7)))) then (.ret .ret [(.tuple #[(.int .i32 65533), (.int .i64 1)])]) else (grd (decide (1 < ((s0.size : Nat) : Int))) (.join (.act (ld1 (aadd a13 0)) fun v16 => asInt .u8 v16 fun i17 => bif (decide ((byteAt s0 1) < i17)) == false then (.act (ld1 (aadd a13 1)) fun v18 => asInt .u8 v18 fun i19 => .ret .normal [(.bool (decide (i19 < (byteAt s0 1))))]) else (.ret .normal [(.bool true)])) (T125k0 i2 s0))))))))))
theorem T125_eq (s0 : ByteArray) : progOf PROG false 125 [(.string s0)] = T125 s0 := by kernel_rfl


/-- hindsight/lex.named$1 -/
noncomputable def T126 (i0 : Int) : Pg :=
  .call 111 [(.int .i32 i0)] fun v1 => asInt .i64 v1 fun i2 => .ret .ret [(.bool ((i2 == 1) || (i2 == 2)))]
theorem T126_eq (i0 : Int) : progOf PROG false 126 [(.int .i32 i0)] = T126 i0 := by kernel_rfl


noncomputable def T127k0 : Ex → List Value → Pg :=
  fun e13 l14 => sw e13 .ret (asCons l14 fun v15 l16 => asBool v15 fun b17 => asNil l16 (.ret .ret [(.bool b17)])) (.fail)

noncomputable def T127b0 (a3 : Addr) : List Value → Pg :=
  fun l4 => asCons l4 fun v5 l6 => asBool v5 fun b7 => asNil l6 (.act (nxt (some a3)) fun v8 => asNx v8 (fun i9 i10 => .join (.call 82 [(.int .i32 i10)] fun v11 => asBool v11 fun b12 => .ret .ret [(.bool b12)]) (T127k0)) (.ret (.exit 0) [(.bool b7)]))

noncomputable def T127k1 : Ex → List Value → Pg :=
  fun e18 l19 => sw e18 (.exit 0) (asCons l19 fun v20 l21 => asBool v20 fun b22 => asNil l21 (.ret .ret [(.bool false)])) (sw e18 .ret (asCons l19 fun v23 l24 => asBool v23 fun b25 => asNil l24 (.ret .ret [(.bool b25)])) (.fail))

/-- hindsight/chars.Upper -/
noncomputable def T127 (s0 : ByteArray) : Pg :=
  .act (rng s0) fun v1 => asPtr v1 fun p2 => asSome p2 fun a3 => .loop [(.bool false)] (T127b0 a3) (T127k1)
theorem T127_eq (s0 : ByteArray) : progOf PROG false 127 [(.string s0)] = T127 s0 := by kernel_rfl


noncomputable def T128k0 : Ex → List Value → Pg :=
  fun e1 l2 => sw e1 .normal (asCons l2 fun v3 l4 => asBool v3 fun b5 => asNil l4 (.ret .normal [(.bool b5)])) (.fail)

noncomputable def T128k1 : Ex → List Value → Pg :=
  fun e6 l7 => sw e6 .normal (asCons l7 fun v8 l9 => asBool v8 fun b10 => asNil l9 (.ret .normal [(.bool b10)])) (.fail)

noncomputable def T128k2 : Ex → List Value → Pg :=
  fun e11 l12 => sw e11 .normal (asCons l12 fun v13 l14 => asBool v13 fun b15 => asNil l14 (.ret .normal [(.bool b15)])) (.fail)

noncomputable def T128k3 : Ex → List Value → Pg :=
  fun e16 l17 => sw e16 .normal (asCons l17 fun v18 l19 => asBool v18 fun b20 => asNil l19 (.ret .normal [(.bool b20)])) (.fail)

noncomputable def T128k4 : Ex → List Value → Pg :=
  fun e21 l22 => sw e21 .normal (asCons l22 fun v23 l24 => asBool v23 fun b25 => asNil l24 (.ret .normal [(.bool b25)])) (.fail)

noncomputable def T128k5 : Ex → List Value → Pg :=
  fun e26 l27 => sw e26 .normal (asCons l27 fun v28 l29 => asBool v28 fun b30 => asNil l29 (.ret .normal [(.bool b30)])) (.fail)

noncomputable def T128k6 : Ex → List Value → Pg :=
  fun e31 l32 => sw e31 .normal (asCons l32 fun v33 l34 => asBool v33 fun b35 => asNil l34 (.ret .normal [(.bool b35)])) (.fail)

noncomputable def T128k7 : Ex → List Value → Pg :=
  fun e36 l37 => sw e36 .normal (asCons l37 fun v38 l39 => asBool v38 fun b40 => asNil l39 (.ret .normal [(.bool b40)])) (.fail)

noncomputable def T128k8 : Ex → List Value → Pg :=
  fun e41 l42 => sw e41 .normal (asCons l42 fun v43 l44 => asBool v43 fun b45 => asNil l44 (.ret .normal [(.bool b45)])) (.fail)

noncomputable def T128k9 : Ex → List Value → Pg :=
  fun e46 l47 => sw e46 .normal (asCons l47 fun v48 l49 => asBool v48 fun b50 => asNil l49 (.ret .normal [(.bool b50)])) (.fail)

noncomputable def T128k10 : Ex → List Value → Pg :=
  fun e51 l52 => sw e51 .normal (asCons l52 fun v53 l54 => asBool v53 fun b55 => asNil l54 (.ret .normal [(.bool b55)])) (.fail)

noncomputable def T128k11 : Ex → List Value → Pg :=
  fun e56 l57 => sw e56 .normal (asCons l57 fun v58 l59 => asBool v58 fun b60 => asNil l59 (.ret .normal [(.bool b60)])) (.fail)

noncomputable def T128k12 : Ex → List Value → Pg :=
  fun e61 l62 => sw e61 .normal (asCons l62 fun v63 l64 => asBool v63 fun b65 => asNil l64 (.ret .normal [(.bool b65)])) (.fail)

noncomputable def T128k13 : Ex → List Value → Pg :=
  fun e66 l67 => sw e66 .normal (asCons l67 fun v68 l69 => asBool v68 fun b70 => asNil l69 (.ret .normal [(.bool b70)])) (.fail)

noncomputable def T128k14 : Ex → List Value → Pg :=
  fun e71 l72 => sw e71 .normal (asCons l72 fun v73 l74 => asBool v73 fun b75 => asNil l74 (.ret .normal [(.bool b75)])) (.fail)

noncomputable def T128k15 : Ex → List Value → Pg :=
  fun e76 l77 => sw e76 .normal (asCons l77 fun v78 l79 => asBool v78 fun b80 => asNil l79 (.ret .normal [(.bool b80)])) (.fail)

noncomputable def T128k16 : Ex → List Value → Pg :=
  fun e81 l82 => sw e81 .normal (asCons l82 fun v83 l84 => asBool v83 fun b85 => asNil l84 (.ret .normal [(.bool b85)])) (.fail)

noncomputable def T128k17 : Ex → List Value → Pg :=
  fun e86 l87 => sw e86 .normal (asCons l87 fun v88 l89 => asBool v88 fun b90 => asNil l89 (bif b90 then (.ret .ret [(.bool true)]) else (.ret .normal [(.bool false)]))) (.fail)

noncomputable def T128k18 : Ex → List Value → Pg :=
  fun e91 l92 => sw e91 .ret (asCons l92 fun v93 l94 => asBool v93 fun b95 => asNil l94 (.ret .ret [(.bool b95)])) (sw e91 .normal (asCons l92 fun v96 l97 => asBool v96 fun b98 => asNil l97 (.ret .ret [(.bool false)])) (.fail))

/-- hindsight/lex.IsKey -/
noncomputable def T128 (s0 : ByteArray) : Pg :=
  .join (.join (bif (s0.toList == (bs [116, 121, 112, 101]).toList) then (.ret .normal [(.bool (s0.toList == (bs [116, 121, 112, 101]).toList))]) else (.join (bif (s0.toList == (bs [111, 102]).toList) then (.ret .normal [(.bool (s0.toList == (bs [111, 102]).toList))]) else (.join (bif (s0.toList == (bs [108, 101, 116]).toList) then (.ret .normal [(.bool (s0.toList == (bs [108, 101, 116]).toList))]) else (.join (bif (s0.toList == (bs [114, 101, 99]).toList) then (.ret .normal [(.bool (s0.toList == (bs [114, 101, 99]).toList))]) else (.join (bif (s0.toList == (bs [105, 110]).toList) then (.ret .normal [(.bool (s0.toList == (bs [105, 110]).toList))]) else (.join (bif (s0.toList == (bs [102, 117, 110]).toList) then (.ret .normal [(.bool (s0.toList == (bs [102, 117, 110]).toList))]) else (.join (bif (s0.toList == (bs [105, 102]).toList) then (.ret .normal [(.bool (s0.toList == (bs [105, 102]).toList))]) else (.join (bif (s0.toList == (bs [116, 104, 101, 110]).toList) then (.ret .normal [(.bool (s0.toList == (bs [116, 104, 101, 110]).toList))]) else (.join (bif (s0.toList == (bs [101, 108, 115, 101]).toList) then (.ret .normal [(.bool (s0.toList == (bs [101, 108, 115, 101]).toList))]) else (.join (bif (s0.toList == (bs [109, 97, 116, 99, 104]).toList) then (.ret .normal [(.bool (s0.toList == (bs [109, 97, 116, 99, 104]).toList))]) else (.join (bif (s0.toList == (bs [119, 105, 116, 104]).toList) then (.ret .normal [(.bool (s0.toList == (bs [119, 105, 116, 104]).toList))]) else (.join (bif (s0.toList == (bs [101, 110, 100]).toList) then (.ret .normal [(.bool (s0.toList == (bs [101, 110, 100]).toList))]) else (.join (bif (s0.toList == (bs [114, 101, 102]).toList) then (.ret .normal [(.bool (s0.toList == (bs [114, 101, 102]).toList))]) else (.join (bif (s0.toList == (bs [112, 114, 105, 110, 116]).toList) then (.ret .normal [(.bool (s0.toList == (bs [112, 114, 105, 110, 116]).toList))]) else (.join (bif (s0.toList == (bs [114, 101, 97, 100]).toList) then (.ret .normal [(.bool (s0.toList == (bs [114, 101, 97, 100]).toList))]) else (.join (bif (s0.toList == (bs [114, 97, 105, 115, 101]).toList) then (.ret .normal [(.bool (s0.toList == (bs [114, 97, 105, 115, 101]).toList))]) else (.join (bif (s0.toList == (bs [116, 114, 121]).toList) then (.ret .normal [(.bool (s0.toList == (bs [116, 114, 121]).toList))]) else (.join (bif (s0.toList == (bs [116, 114, 117, 101]).toList) then (.ret .normal [(.bool (s0.toList == (bs [116, 114, 117, 101]).toList))]) else (.ret .normal [(.bool (s0.toList == (bs [102, 97, 108, 115, 101]).toList))])) (T128k0))) (T128k1))) (T128k2))) (T128k3))) (T128k4))) (T128k5))) (T128k6))) (T128k7))) (T128k8))) (T128k9))) (T128k10))) (T128k11))) (T128k12))) (T128k13))) (T128k14))) (T128k15))) (T128k16))) (T128k17)) (T128k18)
theorem T128_eq (s0 : ByteArray) : progOf PROG false 128 [(.string s0)] = T128 s0 := by kernel_rfl


/-- strings.HasPrefix -/
noncomputable def T129 (s0 : ByteArray) (s1 : ByteArray) : Pg :=
  .call 132 [(.string s0), (.string s1)] fun v2 => asBool v2 fun b3 => .ret .ret [(.bool b3)]
theorem T129_eq (s0 : ByteArray) (s1 : ByteArray) : progOf PROG false 129 [(.string s0), (.string s1)] = T129 s0 s1 := by kernel_rfl


noncomputable def T131k0 : Ex → List Value → Pg :=
  fun e13 l14 => sw e13 .normal (asCons l14 fun v15 l16 => asPtr v15 fun p17 => asNil l16 (.ret .normal [(.pointer p17)])) (.fail)

noncomputable def T131b0 (p0 : (Option Addr)) : List Value → Pg :=
  fun l3 => asCons l3 fun v4 l5 => asPtr v4 fun p6 => asNil l5 (.call 134 [(.pointer p0)] fun v7 => asBool v7 fun b8 => bif b8 then (.join (.call 133 [(.pointer p0)] fun v9 => asPtr v9 fun p10 => .call 68 [(.int .i64 7), (.string (bs [])), (.pointer p6), (.pointer p10)] fun v11 => asPtr v11 fun p12 => .ret .normal [(.pointer p12)]) (T131k0)) else (.ret (.exit 0) [(.pointer p6)]))

noncomputable def T131k1 : Ex → List Value → Pg :=
  fun e18 l19 => sw e18 (.exit 0) (asCons l19 fun v20 l21 => asPtr v20 fun p22 => asNil l21 (.ret .ret [(.pointer p22)])) (.fail)

/-- (*hindsight/hindsightref3.reader).app -/
noncomputable def T131 (p0 : (Option Addr)) : Pg :=
  .call 133 [(.pointer p0)] fun v1 => asPtr v1 fun p2 => .loop [(.pointer p2)] (T131b0 p0) (T131k1)
theorem T131_eq (p0 : (Option Addr)) : progOf PROG false 131 [(.pointer p0)] = T131 p0 := by kernel_rfl


noncomputable def T132k0 : Ex → List Value → Pg :=
  fun e2 l3 => sw e2 .normal (asCons l3 fun v4 l5 => asBool v4 fun b6 => asNil l5 (.ret .ret [(.bool b6)])) (.fail)

/-- internal/stringslite.HasPrefix -/
noncomputable def T132 (s0 : ByteArray) (s1 : ByteArray) : Pg :=
  .join (bif (decide (((s0.size : Nat) : Int) ≥ ((s1.size : Nat) : Int))) == true then (grd (decide (((s1.size : Nat) : Int) ≤ ((s0.size : Nat) : Int))) (.ret .normal [(.bool ((s0.extract 0 s1.size).toList == s1.toList))])) else (.ret .normal [(.bool false)])) (T132k0)
theorem T132_eq (s0 : ByteArray) (s1 : ByteArray) : progOf PROG false 132 [(.string s0), (.string s1)] = T132 s0 s1 := by kernel_rfl


noncomputable def T133k0 (i26 : Int) : Ex → List Value → Pg :=
  fun e51 l52 => sw e51 .ret (asCons l52 fun v53 l54 => asPtr v53 fun p55 => asNil l54 (.ret .ret [(.int .i64 i26), (.pointer p55)])) (sw e51 .normal (asCons l52 fun v56 l57 => asPtr v56 fun p58 => asNil l57 (.ret .normal [(.int .i64 (wi64 (i26 + 1))), (.pointer p58)])) (.fail))

noncomputable def T133b0 (p16 : (Option Addr)) (n17 : Nat) (p0 : (Option Addr)) (p20 : (Option Addr)) (n21 : Nat) (i11 : Int) : List Value → Pg :=
  fun l23 => asCons l23 fun v24 l25 => asInt .i64 v24 fun i26 => asCons l25 fun v27 l28 => asPtr v27 fun p29 => asNil l28 (bif (decide (i26 < 4)) then (.join (asSome p16 fun a30 => grd ((decide (0 ≤ i26)) && (decide (i26 < ((n17 : Nat) : Int)))) (.act (ld1 (aadd a30 ((Int.toNat i26) * 1))) fun v31 => asStr v31 fun s32 => .call 64 [(.pointer p0), (.string s32)] fun v33 => asBool v33 fun b34 => bif b34 then (.call 133 [(.pointer p0)] fun v35 => asPtr v35 fun p36 => asSome p20 fun a37 => grd ((decide (0 ≤ i26)) && (decide (i26 < ((n21 : Nat) : Int)))) (.act (ld1 (aadd a37 ((Int.toNat i26) * 1))) fun v38 => asInt .i64 v38 fun i39 => asSome p36 fun a40 => .act (ld1 (aadd (aadd a40 0) 6)) fun v41 => asInt .i64 v41 fun i42 => .act (bdSl 1 1 [(.pointer p36)]) fun v43 => asSlice v43 fun p44 n45 n46 => .get fun h50 => grd (chks [((ld1 (aadd (aadd a40 0) 6)), v41), ((ld1 (aadd a37 ((Int.toNat i26) * 1))), v38)] h50) (.act (newC [(.int .i64 i39), (.int .i64 0), (.string (bs [])), (.string (bs [])), (.slice none 0 0), (.int .i64 i11), (.int .i64 i42), (.slice p44 n45 n46)]) fun v47 => asPtr v47 fun p48 => asSome p48 fun a49 => .ret .ret [(.pointer (some a49))]))) else (.ret .normal [(.pointer p29)]))) (T133k0 i26)) else (.ret (.exit 0) [(.int .i64 i26), (.pointer p29)]))

noncomputable def T133k1 (p0 : (Option Addr)) : Ex → List Value → Pg :=
  fun e59 l60 => sw e59 (.exit 0) (asCons l60 fun v61 l62 => asInt .i64 v61 fun i63 => asCons l62 fun v64 l65 => asPtr v64 fun p66 => asNil l65 (.call 135 [(.pointer p0)] fun v67 => asPtr v67 fun p68 => .ret .ret [(.pointer p68)])) (sw e59 .ret (asCons l60 fun v69 l70 => asInt .i64 v69 fun i71 => asCons l70 fun v72 l73 => asPtr v72 fun p74 => asNil l73 (.ret .ret [(.pointer p74)])) (.fail))

/-- (*hindsight/hindsightref3.reader).pre -/
noncomputable def T133 (p0 : (Option Addr)) : Pg :=
  .call 45 [(.pointer p0)] fun v1 => asAgg v1 fun l2 => asCons l2 fun v3 l4 => asInt .i64 v3 fun i5 => asCons l4 fun v6 l7 => asStr v6 fun s8 => asCons l7 fun v9 l10 => asInt .i64 v9 fun i11 => asCons l10 fun v12 l13 => asInt .i64 v12 fun i14 => asNil l13 (.act (bdSl 1 4 [(.string (bs [114, 101, 102])), (.string (bs [33])), (.string (bs [112, 114, 105, 110, 116])), (.string (bs [114, 97, 105, 115, 101]))]) fun v15 => asSlice v15 fun p16 n17 n18 => .act (bdSl 1 4 [(.int .i64 15), (.int .i64 16), (.int .i64 17), (.int .i64 19)]) fun v19 => asSlice v19 fun p20 n21 n22 => .loop [(.int .i64 0), (.pointer none)] (T133b0 p16 n17 p0 p20 n21 i11) (T133k1 p0))
theorem T133_eq (p0 : (Option Addr)) : progOf PROG false 133 [(.pointer p0)] = T133 p0 := by kernel_rfl


noncomputable def T134k0 : Ex → List Value → Pg :=
  fun e53 l54 => sw e53 .normal (asCons l54 fun v55 l56 => asBool v55 fun b57 => asNil l56 (.ret .ret [(.bool b57)])) (.fail)

noncomputable def T134k1 (a17 : Addr) : Ex → List Value → Pg :=
  fun e38 l39 => sw e38 .normal (asCons l39 fun v40 l41 => asBool v40 fun b42 => asNil l41 (bif b42 then (.ret .ret [(.bool true)]) else (.act (bdSl 1 13 [(.string (bs [114, 101, 102])), (.string (bs [33])), (.string (bs [112, 114, 105, 110, 116])), (.string (bs [114, 97, 105, 115, 101])), (.string (bs [116, 114, 117, 101])), (.string (bs [102, 97, 108, 115, 101])), (.string (bs [114, 101, 97, 100])), (.string (bs [40])), (.string (bs [102, 117, 110])), (.string (bs [108, 101, 116])), (.string (bs [105, 102])), (.string (bs [109, 97, 116, 99, 104])), (.string (bs [116, 114, 121]))]) fun v43 => asSlice v43 fun p44 n45 n46 => .join (.act (ld1 (aadd a17 0)) fun v47 => asInt .i64 v47 fun i48 => bif (decide (i48 > 3)) == true then (.act (ld1 (aadd a17 1)) fun v49 => asStr v49 fun s50 => .call 89 [(.slice p44 n45 n46), (.string s50)] fun v51 => asBool v51 fun b52 => .ret .normal [(.bool b52)]) else (.ret .normal [(.bool false)])) (T134k0)))) (.fail)

noncomputable def T134k2 (a17 : Addr) : Ex → List Value → Pg :=
  fun e25 l26 => sw e25 .normal (asCons l26 fun v27 l28 => asBool v27 fun b29 => asNil l28 (bif b29 then (.ret .ret [(.bool false)]) else (.join (.act (ld1 (aadd a17 0)) fun v30 => asInt .i64 v30 fun i31 => bif (i31 == 1) == false then (.act (ld1 (aadd a17 0)) fun v32 => asInt .i64 v32 fun i33 => bif (i33 == 3) == false then (.act (ld1 (aadd a17 0)) fun v34 => asInt .i64 v34 fun i35 => bif (i35 == 2) == true then (.act (ld1 (aadd a17 1)) fun v36 => asStr v36 fun s37 => .ret .normal [(.bool (!(s37.toList == (bs [95]).toList)))]) else (.ret .normal [(.bool false)])) else (.ret .normal [(.bool true)])) else (.ret .normal [(.bool true)])) (T134k1 a17)))) (.fail)

/-- (*hindsight/hindsightref3.reader).begins -/
noncomputable def T134 (p0 : (Option Addr)) : Pg :=
  .call 45 [(.pointer p0)] fun v1 => asAgg v1 fun l2 => asCons l2 fun v3 l4 => asInt .i64 v3 fun i5 => asCons l4 fun v6 l7 => asStr v6 fun s8 => asCons l7 fun v9 l10 => asInt .i64 v9 fun i11 => asCons l10 fun v12 l13 => asInt .i64 v12 fun i14 => asNil l13 (.act (newC [(.int .i64 0), (.string (bs [])), (.int .i64 0), (.int .i64 0)]) fun v15 => asPtr v15 fun p16 => asSome p16 fun a17 => .act (stC a17 [(.int .i64 i5), (.string s8), (.int .i64 i11), (.int .i64 i14)]) fun v18 => asTuple v18 fun l19 => asNil l19 (.join (asSome p0 fun a20 => .act (ld1 (aadd a20 3)) fun v21 => asBool v21 fun b22 => bif b22 == false then (.act (ld1 (aadd a17 0)) fun v23 => asInt .i64 v23 fun i24 => .ret .normal [(.bool (i24 == 0))]) else (.ret .normal [(.bool true)])) (T134k2 a17)))
theorem T134_eq (p0 : (Option Addr)) : progOf PROG false 134 [(.pointer p0)] = T134 p0 := by kernel_rfl


noncomputable def T135k0 (p0 : (Option Addr)) : Ex → List Value → Pg :=
  fun e59 l60 => sw e59 .ret (asCons l60 fun v61 l62 => asPtr v61 fun p63 => asNil l62 (.ret .ret [(.pointer p63)])) (sw e59 .normal (asCons l60 fun v64 l65 => asPtr v64 fun p66 => asNil l65 (.call 141 [(.pointer p0)] fun v67 => asPtr v67 fun p68 => .ret .ret [(.pointer p68)])) (.fail))

noncomputable def T135k1 (a17 : Addr) (p0 : (Option Addr)) : Ex → List Value → Pg :=
  fun e41 l42 => sw e41 .ret (asCons l42 fun v43 l44 => asPtr v43 fun p45 => asNil l44 (.ret .ret [(.pointer p45)])) (sw e41 .normal (asCons l42 fun v46 l47 => asPtr v46 fun p48 => asNil l47 (.act (ld1 (aadd a17 1)) fun v49 => asStr v49 fun s50 => .join (bif (s50.toList == (bs [116, 114, 117, 101]).toList) then (.call 137 [(.pointer p0), (.agg #[(.int .i64 2), (.int .i64 1), (.string (bs [])), (.string (bs [])), (.slice none 0 0), (.int .i64 0), (.int .i64 0)])] fun v51 => asPtr v51 fun p52 => .ret .ret [(.pointer p52)]) else (bif (s50.toList == (bs [102, 97, 108, 115, 101]).toList) then (.call 137 [(.pointer p0), (.agg #[(.int .i64 2), (.int .i64 0), (.string (bs [])), (.string (bs [])), (.slice none 0 0), (.int .i64 0), (.int .i64 0)])] fun v53 => asPtr v53 fun p54 => .ret .ret [(.pointer p54)]) else (bif (s50.toList == (bs [114, 101, 97, 100]).toList) then (.call 137 [(.pointer p0), (.agg #[(.int .i64 18), (.int .i64 0), (.string (bs [])), (.string (bs [])), (.slice none 0 0), (.int .i64 0), (.int .i64 0)])] fun v55 => asPtr v55 fun p56 => .ret .ret [(.pointer p56)]) else (bif (s50.toList == (bs [40]).toList) then (.call 140 [(.pointer p0)] fun v57 => asPtr v57 fun p58 => .ret .ret [(.pointer p58)]) else (.ret .normal [(.pointer p48)]))))) (T135k0 p0))) (.fail))

/-- (*hindsight/hindsightref3.reader).atom -/
noncomputable def T135 (p0 : (Option Addr)) : Pg :=
  .call 45 [(.pointer p0)] fun v1 => asAgg v1 fun l2 => asCons l2 fun v3 l4 => asInt .i64 v3 fun i5 => asCons l4 fun v6 l7 => asStr v6 fun s8 => asCons l7 fun v9 l10 => asInt .i64 v9 fun i11 => asCons l10 fun v12 l13 => asInt .i64 v12 fun i14 => asNil l13 (.act (newC [(.int .i64 0), (.string (bs [])), (.int .i64 0), (.int .i64 0)]) fun v15 => asPtr v15 fun p16 => asSome p16 fun a17 => .act (stC a17 [(.int .i64 i5), (.string s8), (.int .i64 i11), (.int .i64 i14)]) fun v18 => asTuple v18 fun l19 => asNil l19 (.call 134 [(.pointer p0)] fun v20 => asBool v20 fun b21 => bif (!b21) then (asSome p0 fun a22 => .act (stC (aadd a22 3) [(.bool true)]) fun v23 => asTuple v23 fun l24 => asNil l24 (.call 136 [] fun v25 => asPtr v25 fun p26 => .ret .ret [(.pointer p26)])) else (.act (ld1 (aadd a17 0)) fun v27 => asInt .i64 v27 fun i28 => .join (bif (i28 == 1) then (.act (ld1 (aadd a17 1)) fun v29 => asStr v29 fun s30 => .call 138 [(.string s30)] fun v31 => asInt .i64 v31 fun i32 => .call 137 [(.pointer p0), (.agg #[(.int .i64 1), (.int .i64 i32), (.string (bs [])), (.string (bs [])), (.slice none 0 0), (.int .i64 0), (.int .i64 0)])] fun v33 => asPtr v33 fun p34 => .ret .ret [(.pointer p34)]) else (bif (i28 == 2) then (.act (ld1 (aadd a17 1)) fun v35 => asStr v35 fun s36 => .call 137 [(.pointer p0), (.agg #[(.int .i64 4), (.int .i64 0), (.string s36), (.string (bs [])), (.slice none 0 0), (.int .i64 0), (.int .i64 0)])] fun v37 => asPtr v37 fun p38 => .ret .ret [(.pointer p38)]) else (bif (i28 == 3) then (.call 139 [(.pointer p0)] fun v39 => asPtr v39 fun p40 => .ret .ret [(.pointer p40)]) else (.ret .normal [(.pointer none)])))) (T135k1 a17 p0))))
theorem T135_eq (p0 : (Option Addr)) : progOf PROG false 135 [(.pointer p0)] = T135 p0 := by kernel_rfl


/-- hindsight/hindsightref3.none -/
noncomputable def T136 : Pg :=
  .act (newC [(.int .i64 3), (.int .i64 0), (.string (bs [])), (.string (bs [])), (.slice none 0 0), (.int .i64 0), (.int .i64 0), (.slice none 0 0)]) fun v0 => asPtr v0 fun p1 => asSome p1 fun a2 => .ret .ret [(.pointer (some a2))]
theorem T136_eq : progOf PROG false 136 [] = T136 := by kernel_rfl


/-- (*hindsight/hindsightref3.reader).one -/
noncomputable def T137 (p0 : (Option Addr)) (i1 : Int) (i2 : Int) (s3 : ByteArray) (s4 : ByteArray) (p5 : (Option Addr)) (n6 : Nat) (n7 : Nat) (i8 : Int) (i9 : Int) : Pg :=
  .act (newC [(.int .i64 i1), (.int .i64 i2), (.string s3), (.string s4), (.slice p5 n6 n7), (.int .i64 i8), (.int .i64 i9)]) fun v10 => asPtr v10 fun p11 => asSome p11 fun a12 => .call 45 [(.pointer p0)] fun v13 => asAgg v13 fun l14 => asCons l14 fun v15 l16 => asInt .i64 v15 fun i17 => asCons l16 fun v18 l19 => asStr v18 fun s20 => asCons l19 fun v21 l22 => asInt .i64 v21 fun i23 => asCons l22 fun v24 l25 => asInt .i64 v24 fun i26 => asNil l25 (.call 45 [(.pointer p0)] fun v27 => asAgg v27 fun l28 => asCons l28 fun v29 l30 => asInt .i64 v29 fun i31 => asCons l30 fun v32 l33 => asStr v32 fun s34 => asCons l33 fun v35 l36 => asInt .i64 v35 fun i37 => asCons l36 fun v38 l39 => asInt .i64 v38 fun i40 => asNil l39 (.act (stC (aadd a12 5) [(.int .i64 i23)]) fun v41 => asTuple v41 fun l42 => asNil l42 (.act (stC (aadd a12 6) [(.int .i64 i40)]) fun v43 => asTuple v43 fun l44 => asNil l44 (asSome p0 fun a45 => .act (ld1 (aadd a45 1)) fun v46 => asInt .i64 v46 fun i47 => asSome p0 fun a48 => .act (stC (aadd a48 1) [(.int .i64 (wi64 (i47 + 1)))]) fun v49 => asTuple v49 fun l50 => asNil l50 (.act (ldN 7 a12) fun v51 => asAgg v51 fun l52 => asCons l52 fun v53 l54 => asInt .i64 v53 fun i55 => asCons l54 fun v56 l57 => asInt .i64 v56 fun i58 => asCons l57 fun v59 l60 => asStr v59 fun s61 => asCons l60 fun v62 l63 => asStr v62 fun s64 => asCons l63 fun v65 l66 => asSlice v65 fun p67 n68 n69 => asCons l66 fun v70 l71 => asInt .i64 v70 fun i72 => asCons l71 fun v73 l74 => asInt .i64 v73 fun i75 => asNil l74 (.act (newC [(.int .i64 i55), (.int .i64 i58), (.string s61), (.string s64), (.slice p67 n68 n69), (.int .i64 i72), (.int .i64 i75), (.slice none 0 0)]) fun v76 => asPtr v76 fun p77 => asSome p77 fun a78 => .ret .ret [(.pointer (some a78))]))))))
theorem T137_eq (p0 : (Option Addr)) (i1 : Int) (i2 : Int) (s3 : ByteArray) (s4 : ByteArray) (p5 : (Option Addr)) (n6 : Nat) (n7 : Nat) (i8 : Int) (i9 : Int) : progOf PROG false 137 [(.pointer p0), (.agg #[(.int .i64 i1), (.int .i64 i2), (.string s3), (.string s4), (.slice p5 n6 n7), (.int .i64 i8), (.int .i64 i9)])] = T137 p0 i1 i2 s3 s4 p5 n6 n7 i8 i9 := by kernel_rfl


noncomputable def T138k0 (i4 : Int) : Ex → List Value → Pg :=
  fun e8 l9 => sw e8 .normal (asCons l9 fun v10 l11 => asInt .i64 v10 fun i12 => asNil l11 (.ret .normal [(.int .i64 (wi64 (i4 + 1))), (.int .i64 i12)])) (.fail)

noncomputable def T138b0 (s0 : ByteArray) : List Value → Pg :=
  fun l1 => asCons l1 fun v2 l3 => asInt .i64 v2 fun i4 => asCons l3 fun v5 l6 => asInt .i64 v5 fun i7 => asNil l6 (bif (decide (i4 < ((s0.size : Nat) : Int))) then (.join (grd ((decide (0 ≤ i4)) && (decide (i4 < ((s0.size : Nat) : Int)))) (.ret .normal [(.int .i64 (wi64 ((wi64 (10 * i7)) + (wi64 (wu8 ((byteAt s0 (Int.toNat i4)) - 48))))))])) (T138k0 i4)) else (.ret (.exit 0) [(.int .i64 i4), (.int .i64 i7)]))

noncomputable def T138k1 : Ex → List Value → Pg :=
  fun e13 l14 => sw e13 (.exit 0) (asCons l14 fun v15 l16 => asInt .i64 v15 fun i17 => asCons l16 fun v18 l19 => asInt .i64 v18 fun i20 => asNil l19 (.ret .ret [(.int .i64 i20)])) (.fail)

/-- hindsight/hindsightref3.value -/
noncomputable def T138 (s0 : ByteArray) : Pg :=
  .loop [(.int .i64 0), (.int .i64 0)] (T138b0 s0) (T138k1)
theorem T138_eq (s0 : ByteArray) : progOf PROG false 138 [(.string s0)] = T138 s0 := by kernel_rfl


noncomputable def T139k0 : Ex → List Value → Pg :=
  fun e97 l98 => sw e97 .normal (asNil l98 (.ret .normal [])) (.fail)

noncomputable def T139b0 (p0 : (Option Addr)) (p16 : (Option Addr)) : List Value → Pg :=
  fun l74 => asNil l74 (.call 64 [(.pointer p0), (.string (bs [44]))] fun v75 => asBool v75 fun b76 => bif b76 then (.join (asSome p16 fun a77 => .act (ld1 (aadd a77 7)) fun v78 => asSlice v78 fun p79 n80 n81 => .call 44 [(.pointer p0)] fun v82 => asPtr v82 fun p83 => .get fun h96 => grd (chks [((ld1 (aadd a77 7)), v78)] h96) (.act (bdSl 1 1 [(.pointer p83)]) fun v84 => asSlice v84 fun p85 n86 n87 => .get fun h95 => grd (chks [((ld1 (aadd a77 7)), v78)] h95) (.act (apS 1 8 p79 n80 n81 p85 n86 n87) fun v88 => asSlice v88 fun p89 n90 n91 => asSome p16 fun a92 => .act (stC (aadd a92 7) [(.slice p89 n90 n91)]) fun v93 => asTuple v93 fun l94 => asNil l94 (.ret .normal [])))) (T139k0)) else (.ret (.exit 0) []))

noncomputable def T139k1 (p0 : (Option Addr)) (p16 : (Option Addr)) : Ex → List Value → Pg :=
  fun e99 l100 => sw e99 (.exit 0) (asNil l100 (.call 66 [(.pointer p0), (.string (bs [41]))] fun v101 => asTuple v101 fun l102 => asNil l102 (.call 142 [(.pointer p0)] fun v103 => asInt .i64 v103 fun i104 => asSome p16 fun a105 => .act (stC (aadd (aadd a105 0) 6) [(.int .i64 i104)]) fun v106 => asTuple v106 fun l107 => asNil l107 (.ret .ret [(.pointer p16)])))) (.fail)

noncomputable def T139k2 (p16 : (Option Addr)) (p0 : (Option Addr)) : Ex → List Value → Pg :=
  fun e49 l50 => sw e49 .normal (asCons l50 fun v51 l52 => asBool v51 fun b53 => asNil l52 (bif b53 then (.ret .ret [(.pointer p16)]) else (.call 66 [(.pointer p0), (.string (bs [40]))] fun v54 => asTuple v54 fun l55 => asNil l55 (asSome p16 fun a56 => .act (ld1 (aadd a56 7)) fun v57 => asSlice v57 fun p58 n59 n60 => .call 44 [(.pointer p0)] fun v61 => asPtr v61 fun p62 => .get fun h109 => grd (chks [((ld1 (aadd a56 7)), v57)] h109) (.act (bdSl 1 1 [(.pointer p62)]) fun v63 => asSlice v63 fun p64 n65 n66 => .get fun h108 => grd (chks [((ld1 (aadd a56 7)), v57)] h108) (.act (apS 1 8 p58 n59 n60 p64 n65 n66) fun v67 => asSlice v67 fun p68 n69 n70 => asSome p16 fun a71 => .act (stC (aadd a71 7) [(.slice p68 n69 n70)]) fun v72 => asTuple v72 fun l73 => asNil l73 (.loop [] (T139b0 p0 p16) (T139k1 p0 p16)))))))) (.fail)

/-- (*hindsight/hindsightref3.reader).con -/
noncomputable def T139 (p0 : (Option Addr)) : Pg :=
  .call 45 [(.pointer p0)] fun v1 => asAgg v1 fun l2 => asCons l2 fun v3 l4 => asInt .i64 v3 fun i5 => asCons l4 fun v6 l7 => asStr v6 fun s8 => asCons l7 fun v9 l10 => asInt .i64 v9 fun i11 => asCons l10 fun v12 l13 => asInt .i64 v12 fun i14 => asNil l13 (.call 137 [(.pointer p0), (.agg #[(.int .i64 5), (.int .i64 0), (.string s8), (.string (bs [])), (.slice none 0 0), (.int .i64 0), (.int .i64 0)])] fun v15 => asPtr v15 fun p16 => .join (.call 84 [(.pointer p0), (.string (bs [40]))] fun v17 => asBool v17 fun b18 => bif (!b18) == false then (asSome p0 fun a19 => .act (ld1 (aadd a19 1)) fun v20 => asInt .i64 v20 fun i21 => asSome p0 fun a22 => .act (ld1 (aadd a22 0)) fun v23 => asSlice v23 fun p24 n25 n26 => bif (decide ((wi64 (i21 + 1)) < ((n25 : Nat) : Int))) == true then (asSome p0 fun a27 => .act (ld1 (aadd a27 0)) fun v28 => asSlice v28 fun p29 n30 n31 => asSome p0 fun a32 => .act (ld1 (aadd a32 1)) fun v33 => asInt .i64 v33 fun i34 => asSome p29 fun a35 => grd ((decide (0 ≤ (wi64 (i34 + 1)))) && (decide ((wi64 (i34 + 1)) < ((n30 : Nat) : Int)))) (.act (ld1 (aadd (aadd a35 ((Int.toNat (wi64 (i34 + 1))) * 4)) 0)) fun v36 => asInt .i64 v36 fun i37 => bif (i37 == 5) == true then (asSome p0 fun a38 => .act (ld1 (aadd a38 0)) fun v39 => asSlice v39 fun p40 n41 n42 => asSome p0 fun a43 => .act (ld1 (aadd a43 1)) fun v44 => asInt .i64 v44 fun i45 => asSome p40 fun a46 => grd ((decide (0 ≤ (wi64 (i45 + 1)))) && (decide ((wi64 (i45 + 1)) < ((n41 : Nat) : Int)))) (.act (ld1 (aadd (aadd a46 ((Int.toNat (wi64 (i45 + 1))) * 4)) 1)) fun v47 => asStr v47 fun s48 => .ret .normal [(.bool (s48.toList == (bs [41]).toList))])) else (.ret .normal [(.bool false)]))) else (.ret .normal [(.bool false)])) else (.ret .normal [(.bool true)])) (T139k2 p16 p0))
theorem T139_eq (p0 : (Option Addr)) : progOf PROG false 139 [(.pointer p0)] = T139 p0 := by kernel_rfl


/-- (*hindsight/hindsightref3.reader).bracket -/
noncomputable def T140 (p0 : (Option Addr)) : Pg :=
  .call 45 [(.pointer p0)] fun v1 => asAgg v1 fun l2 => asCons l2 fun v3 l4 => asInt .i64 v3 fun i5 => asCons l4 fun v6 l7 => asStr v6 fun s8 => asCons l7 fun v9 l10 => asInt .i64 v9 fun i11 => asCons l10 fun v12 l13 => asInt .i64 v12 fun i14 => asNil l13 (.call 66 [(.pointer p0), (.string (bs [40]))] fun v15 => asTuple v15 fun l16 => asNil l16 (.call 64 [(.pointer p0), (.string (bs [41]))] fun v17 => asBool v17 fun b18 => bif b18 then (.call 142 [(.pointer p0)] fun v19 => asInt .i64 v19 fun i20 => .act (newC [(.int .i64 3), (.int .i64 0), (.string (bs [])), (.string (bs [])), (.slice none 0 0), (.int .i64 i11), (.int .i64 i20), (.slice none 0 0)]) fun v21 => asPtr v21 fun p22 => asSome p22 fun a23 => .ret .ret [(.pointer (some a23))]) else (.call 44 [(.pointer p0)] fun v24 => asPtr v24 fun p25 => .call 66 [(.pointer p0), (.string (bs [41]))] fun v26 => asTuple v26 fun l27 => asNil l27 (.ret .ret [(.pointer p25)]))))
theorem T140_eq (p0 : (Option Addr)) : progOf PROG false 140 [(.pointer p0)] = T140 p0 := by kernel_rfl


noncomputable def T141k0 (p0 : (Option Addr)) : Ex → List Value → Pg :=
  fun e60 l61 => sw e60 .normal (asNil l61 (.call 66 [(.pointer p0), (.string (bs [61]))] fun v62 => asTuple v62 fun l63 => asNil l63 (.call 44 [(.pointer p0)] fun v64 => asPtr v64 fun p65 => .act (bdSl 1 1 [(.pointer p65)]) fun v66 => asSlice v66 fun p67 n68 n69 => .act (apS 1 8 none 0 0 p67 n68 n69) fun v70 => asSlice v70 fun p71 n72 n73 => .call 66 [(.pointer p0), (.string (bs [105, 110]))] fun v74 => asTuple v74 fun l75 => asNil l75 (.call 44 [(.pointer p0)] fun v76 => asPtr v76 fun p77 => .act (bdSl 1 1 [(.pointer p77)]) fun v78 => asSlice v78 fun p79 n80 n81 => .act (apS 1 8 p71 n72 n73 p79 n80 n81) fun v82 => asSlice v82 fun p83 n84 n85 => .ret .normal [(.bool false), (.slice p83 n84 n85)])))) (.fail)

noncomputable def T141k1 (p0 : (Option Addr)) (a17 : Addr) : Ex → List Value → Pg :=
  fun e48 l49 => sw e48 .normal (asNil l49 (.call 65 [(.pointer p0), (.int .i64 2)] fun v50 => asStr v50 fun s51 => .act (stC (aadd a17 2) [(.string s51)]) fun v52 => asTuple v52 fun l53 => asNil l53 (.act (ld1 (aadd a17 0)) fun v54 => asInt .i64 v54 fun i55 => .join (bif (i55 == 9) then (.call 65 [(.pointer p0), (.int .i64 2)] fun v56 => asStr v56 fun s57 => .act (stC (aadd a17 3) [(.string s57)]) fun v58 => asTuple v58 fun l59 => asNil l59 (.ret .normal [])) else (.ret .normal [])) (T141k0 p0)))) (.fail)

noncomputable def T141k2 (p0 : (Option Addr)) : Ex → List Value → Pg :=
  fun e179 l180 => sw e179 .normal (asCons l180 fun v181 l182 => asSlice v181 fun p183 n184 n185 => asNil l182 (.call 64 [(.pointer p0), (.string (bs [124]))] fun v186 => asBool v186 fun b187 => .ret .normal [(.bool b187), (.slice p183 n184 n185)])) (.fail)

noncomputable def T141k3 (p0 : (Option Addr)) (p146 : (Option Addr)) (n147 : Nat) (n148 : Nat) (b143 : Bool) : Ex → List Value → Pg :=
  fun e152 l153 => sw e152 .normal (asCons l153 fun v154 l155 => asBool v154 fun b156 => asNil l155 (bif b156 then (.join (.call 143 [(.pointer p0)] fun v157 => asPtr v157 fun p158 => .act (bdSl 1 1 [(.pointer p158)]) fun v159 => asSlice v159 fun p160 n161 n162 => .act (apS 1 8 p146 n147 n148 p160 n161 n162) fun v163 => asSlice v163 fun p164 n165 n166 => .call 66 [(.pointer p0), (.string (bs [45, 62]))] fun v167 => asTuple v167 fun l168 => asNil l168 (.call 44 [(.pointer p0)] fun v169 => asPtr v169 fun p170 => .act (bdSl 1 1 [(.pointer p170)]) fun v171 => asSlice v171 fun p172 n173 n174 => .act (apS 1 8 p164 n165 n166 p172 n173 n174) fun v175 => asSlice v175 fun p176 n177 n178 => .ret .normal [(.slice p176 n177 n178)])) (T141k2 p0)) else (.ret (.exit 1) [(.bool b143), (.slice p146 n147 n148)]))) (.fail)

noncomputable def T141b0 (p0 : (Option Addr)) : List Value → Pg :=
  fun l140 => asCons l140 fun v141 l142 => asBool v141 fun b143 => asCons l142 fun v144 l145 => asSlice v144 fun p146 n147 n148 => asNil l145 (.join (bif b143 == true then (asSome p0 fun a149 => .act (ld1 (aadd a149 3)) fun v150 => asBool v150 fun b151 => .ret .normal [(.bool (!b151))]) else (.ret .normal [(.bool false)])) (T141k3 p0 p146 n147 n148 b143))

noncomputable def T141k4 (p0 : (Option Addr)) : Ex → List Value → Pg :=
  fun e188 l189 => sw e188 (.exit 1) (asCons l189 fun v190 l191 => asBool v190 fun b192 => asCons l191 fun v193 l194 => asSlice v193 fun p195 n196 n197 => asNil l194 (.call 66 [(.pointer p0), (.string (bs [101, 110, 100]))] fun v198 => asTuple v198 fun l199 => asNil l199 (.ret .normal [(.slice p195 n196 n197), (.bool true)]))) (.fail)

noncomputable def T141k5 : Ex → List Value → Pg :=
  fun e234 l235 => sw e234 .normal (asCons l235 fun v236 l237 => asSlice v236 fun p238 n239 n240 => asCons l237 fun v241 l242 => asBool v241 fun b243 => asNil l242 (.ret .normal [(.slice p238 n239 n240), (.bool b243)])) (.fail)

noncomputable def T141k6 : Ex → List Value → Pg :=
  fun e244 l245 => sw e244 .normal (asCons l245 fun v246 l247 => asSlice v246 fun p248 n249 n250 => asCons l247 fun v251 l252 => asBool v251 fun b253 => asNil l252 (.ret .normal [(.bool b253), (.slice p248 n249 n250)])) (.fail)

noncomputable def T141k7 : Ex → List Value → Pg :=
  fun e254 l255 => sw e254 .normal (asCons l255 fun v256 l257 => asBool v256 fun b258 => asCons l257 fun v259 l260 => asSlice v259 fun p261 n262 n263 => asNil l260 (.ret .normal [(.bool b258), (.slice p261 n262 n263)])) (.fail)

noncomputable def T141k8 : Ex → List Value → Pg :=
  fun e264 l265 => sw e264 .normal (asCons l265 fun v266 l267 => asBool v266 fun b268 => asCons l267 fun v269 l270 => asSlice v269 fun p271 n272 n273 => asNil l270 (.ret .normal [(.bool b268), (.slice p271 n272 n273)])) (.fail)

noncomputable def T141k9 : Ex → List Value → Pg :=
  fun e274 l275 => sw e274 .normal (asCons l275 fun v276 l277 => asBool v276 fun b278 => asCons l277 fun v279 l280 => asSlice v279 fun p281 n282 n283 => asNil l280 (.ret .normal [(.bool b278), (.slice p281 n282 n283)])) (.fail)

noncomputable def T141k10 (a17 : Addr) (p291 : (Option Addr)) (n292 : Nat) (n293 : Nat) : Ex → List Value → Pg :=
  fun e319 l320 => sw e319 .normal (asNil l320 (.act (ldN 7 a17) fun v321 => asAgg v321 fun l322 => asCons l322 fun v323 l324 => asInt .i64 v323 fun i325 => asCons l324 fun v326 l327 => asInt .i64 v326 fun i328 => asCons l327 fun v329 l330 => asStr v329 fun s331 => asCons l330 fun v332 l333 => asStr v332 fun s334 => asCons l333 fun v335 l336 => asSlice v335 fun p337 n338 n339 => asCons l336 fun v340 l341 => asInt .i64 v340 fun i342 => asCons l341 fun v343 l344 => asInt .i64 v343 fun i345 => asNil l344 (.act (newC [(.int .i64 i325), (.int .i64 i328), (.string s331), (.string s334), (.slice p337 n338 n339), (.int .i64 i342), (.int .i64 i345), (.slice p291 n292 n293)]) fun v346 => asPtr v346 fun p347 => asSome p347 fun a348 => .ret .ret [(.pointer (some a348))]))) (.fail)

noncomputable def T141k11 (p0 : (Option Addr)) (p291 : (Option Addr)) (n292 : Nat) (a17 : Addr) (b288 : Bool) (n293 : Nat) : Ex → List Value → Pg :=
  fun e297 l298 => sw e297 .normal (asCons l298 fun v299 l300 => asBool v299 fun b301 => asNil l300 (bif b301 then (asSome p0 fun a302 => .act (stC (aadd a302 3) [(.bool true)]) fun v303 => asTuple v303 fun l304 => asNil l304 (.call 136 [] fun v305 => asPtr v305 fun p306 => .ret .ret [(.pointer p306)])) else (asSome p291 fun a307 => grd ((decide (0 ≤ (wi64 (((n292 : Nat) : Int) - 1)))) && (decide ((wi64 (((n292 : Nat) : Int) - 1)) < ((n292 : Nat) : Int)))) (.act (ld1 (aadd a307 ((Int.toNat (wi64 (((n292 : Nat) : Int) - 1))) * 1))) fun v308 => asPtr v308 fun p309 => asSome p309 fun a310 => .act (ld1 (aadd (aadd a310 0) 6)) fun v311 => asInt .i64 v311 fun i312 => .act (stC (aadd a17 6) [(.int .i64 i312)]) fun v313 => asTuple v313 fun l314 => asNil l314 (.join (bif b288 then (.call 142 [(.pointer p0)] fun v315 => asInt .i64 v315 fun i316 => .act (stC (aadd a17 6) [(.int .i64 i316)]) fun v317 => asTuple v317 fun l318 => asNil l318 (.ret .normal [])) else (.ret .normal [])) (T141k10 a17 p291 n292 n293)))))) (.fail)

noncomputable def T141k12 (p0 : (Option Addr)) (a17 : Addr) : Ex → List Value → Pg :=
  fun e284 l285 => sw e284 .normal (asCons l285 fun v286 l287 => asBool v286 fun b288 => asCons l287 fun v289 l290 => asSlice v289 fun p291 n292 n293 => asNil l290 (.join (asSome p0 fun a294 => .act (ld1 (aadd a294 3)) fun v295 => asBool v295 fun b296 => bif b296 == false then (.ret .normal [(.bool (((n292 : Nat) : Int) == 0))]) else (.ret .normal [(.bool true)])) (T141k11 p0 p291 n292 a17 b288 n293))) (.fail)

/-- (*hindsight/hindsightref3.reader).long -/
noncomputable def T141 (p0 : (Option Addr)) : Pg :=
  .call 45 [(.pointer p0)] fun v1 => asAgg v1 fun l2 => asCons l2 fun v3 l4 => asInt .i64 v3 fun i5 => asCons l4 fun v6 l7 => asStr v6 fun s8 => asCons l7 fun v9 l10 => asInt .i64 v9 fun i11 => asCons l10 fun v12 l13 => asInt .i64 v12 fun i14 => asNil l13 (.act (newC [(.int .i64 0), (.int .i64 0), (.string (bs [])), (.string (bs [])), (.slice none 0 0), (.int .i64 0), (.int .i64 0)]) fun v15 => asPtr v15 fun p16 => asSome p16 fun a17 => .act (stC a17 [(.int .i64 0), (.int .i64 0), (.string (bs [])), (.string (bs [])), (.slice none 0 0), (.int .i64 i11), (.int .i64 0)]) fun v18 => asTuple v18 fun l19 => asNil l19 (.join (.call 64 [(.pointer p0), (.string (bs [102, 117, 110]))] fun v20 => asBool v20 fun b21 => .join (bif b21 then (.call 65 [(.pointer p0), (.int .i64 2)] fun v22 => asStr v22 fun s23 => .act (stC (aadd a17 0) [(.int .i64 6)]) fun v24 => asTuple v24 fun l25 => asNil l25 (.act (stC (aadd a17 3) [(.string s23)]) fun v26 => asTuple v26 fun l27 => asNil l27 (.call 66 [(.pointer p0), (.string (bs [45, 62]))] fun v28 => asTuple v28 fun l29 => asNil l29 (.call 44 [(.pointer p0)] fun v30 => asPtr v30 fun p31 => .act (bdSl 1 1 [(.pointer p31)]) fun v32 => asSlice v32 fun p33 n34 n35 => .act (apS 1 8 none 0 0 p33 n34 n35) fun v36 => asSlice v36 fun p37 n38 n39 => .ret .normal [(.bool false), (.slice p37 n38 n39)])))) else (.call 64 [(.pointer p0), (.string (bs [108, 101, 116]))] fun v40 => asBool v40 fun b41 => .join (bif b41 then (.act (stC (aadd a17 0) [(.int .i64 8)]) fun v42 => asTuple v42 fun l43 => asNil l43 (.call 64 [(.pointer p0), (.string (bs [114, 101, 99]))] fun v44 => asBool v44 fun b45 => .join (bif b45 then (.act (stC (aadd a17 0) [(.int .i64 9)]) fun v46 => asTuple v46 fun l47 => asNil l47 (.ret .normal [])) else (.ret .normal [])) (T141k1 p0 a17))) else (.call 64 [(.pointer p0), (.string (bs [105, 102]))] fun v86 => asBool v86 fun b87 => .join (bif b87 then (.act (stC (aadd a17 0) [(.int .i64 10)]) fun v88 => asTuple v88 fun l89 => asNil l89 (.call 44 [(.pointer p0)] fun v90 => asPtr v90 fun p91 => .act (bdSl 1 1 [(.pointer p91)]) fun v92 => asSlice v92 fun p93 n94 n95 => .act (apS 1 8 none 0 0 p93 n94 n95) fun v96 => asSlice v96 fun p97 n98 n99 => .call 66 [(.pointer p0), (.string (bs [116, 104, 101, 110]))] fun v100 => asTuple v100 fun l101 => asNil l101 (.call 44 [(.pointer p0)] fun v102 => asPtr v102 fun p103 => .act (bdSl 1 1 [(.pointer p103)]) fun v104 => asSlice v104 fun p105 n106 n107 => .act (apS 1 8 p97 n98 n99 p105 n106 n107) fun v108 => asSlice v108 fun p109 n110 n111 => .call 66 [(.pointer p0), (.string (bs [101, 108, 115, 101]))] fun v112 => asTuple v112 fun l113 => asNil l113 (.call 44 [(.pointer p0)] fun v114 => asPtr v114 fun p115 => .act (bdSl 1 1 [(.pointer p115)]) fun v116 => asSlice v116 fun p117 n118 n119 => .act (apS 1 8 p109 n110 n111 p117 n118 n119) fun v120 => asSlice v120 fun p121 n122 n123 => .ret .normal [(.bool false), (.slice p121 n122 n123)])))) else (.call 64 [(.pointer p0), (.string (bs [109, 97, 116, 99, 104]))] fun v124 => asBool v124 fun b125 => .join (bif b125 then (.act (stC (aadd a17 0) [(.int .i64 11)]) fun v126 => asTuple v126 fun l127 => asNil l127 (.call 44 [(.pointer p0)] fun v128 => asPtr v128 fun p129 => .act (bdSl 1 1 [(.pointer p129)]) fun v130 => asSlice v130 fun p131 n132 n133 => .act (apS 1 8 none 0 0 p131 n132 n133) fun v134 => asSlice v134 fun p135 n136 n137 => .call 66 [(.pointer p0), (.string (bs [119, 105, 116, 104]))] fun v138 => asTuple v138 fun l139 => asNil l139 (.loop [(.bool true), (.slice p135 n136 n137)] (T141b0 p0) (T141k4 p0)))) else (.call 64 [(.pointer p0), (.string (bs [116, 114, 121]))] fun v200 => asBool v200 fun b201 => .join (bif b201 then (.act (stC (aadd a17 0) [(.int .i64 20)]) fun v202 => asTuple v202 fun l203 => asNil l203 (.call 44 [(.pointer p0)] fun v204 => asPtr v204 fun p205 => .act (bdSl 1 1 [(.pointer p205)]) fun v206 => asSlice v206 fun p207 n208 n209 => .act (apS 1 8 none 0 0 p207 n208 n209) fun v210 => asSlice v210 fun p211 n212 n213 => .call 66 [(.pointer p0), (.string (bs [119, 105, 116, 104]))] fun v214 => asTuple v214 fun l215 => asNil l215 (.call 65 [(.pointer p0), (.int .i64 2)] fun v216 => asStr v216 fun s217 => .act (stC (aadd a17 3) [(.string s217)]) fun v218 => asTuple v218 fun l219 => asNil l219 (.call 66 [(.pointer p0), (.string (bs [45, 62]))] fun v220 => asTuple v220 fun l221 => asNil l221 (.call 44 [(.pointer p0)] fun v222 => asPtr v222 fun p223 => .act (bdSl 1 1 [(.pointer p223)]) fun v224 => asSlice v224 fun p225 n226 n227 => .act (apS 1 8 p211 n212 n213 p225 n226 n227) fun v228 => asSlice v228 fun p229 n230 n231 => .call 66 [(.pointer p0), (.string (bs [101, 110, 100]))] fun v232 => asTuple v232 fun l233 => asNil l233 (.ret .normal [(.slice p229 n230 n231), (.bool true)])))))) else (.ret .normal [(.slice none 0 0), (.bool false)])) (T141k5))) (T141k6))) (T141k7))) (T141k8))) (T141k9)) (T141k12 p0 a17)))
theorem T141_eq (p0 : (Option Addr)) : progOf PROG false 141 [(.pointer p0)] = T141 p0 := by kernel_rfl


/-- (*hindsight/hindsightref3.reader).last -/
noncomputable def T142 (p0 : (Option Addr)) : Pg :=
  asSome p0 fun a1 => .act (ld1 (aadd a1 0)) fun v2 => asSlice v2 fun p3 n4 n5 => asSome p0 fun a6 => .act (ld1 (aadd a6 1)) fun v7 => asInt .i64 v7 fun i8 => asSome p3 fun a9 => grd ((decide (0 ≤ (wi64 (i8 - 1)))) && (decide ((wi64 (i8 - 1)) < ((n4 : Nat) : Int)))) (.act (ld1 (aadd (aadd a9 ((Int.toNat (wi64 (i8 - 1))) * 4)) 3)) fun v10 => asInt .i64 v10 fun i11 => .ret .ret [(.int .i64 i11)])
theorem T142_eq (p0 : (Option Addr)) : progOf PROG false 142 [(.pointer p0)] = T142 p0 := by kernel_rfl


noncomputable def T143k0 : Ex → List Value → Pg :=
  fun e134 l135 => sw e134 .normal (asNil l135 (.ret .normal [])) (.fail)

noncomputable def T143b0 (p0 : (Option Addr)) (p90 : (Option Addr)) : List Value → Pg :=
  fun l111 => asNil l111 (.call 64 [(.pointer p0), (.string (bs [44]))] fun v112 => asBool v112 fun b113 => bif b113 then (.join (asSome p90 fun a114 => .act (ld1 (aadd a114 7)) fun v115 => asSlice v115 fun p116 n117 n118 => .call 143 [(.pointer p0)] fun v119 => asPtr v119 fun p120 => .get fun h133 => grd (chks [((ld1 (aadd a114 7)), v115)] h133) (.act (bdSl 1 1 [(.pointer p120)]) fun v121 => asSlice v121 fun p122 n123 n124 => .get fun h132 => grd (chks [((ld1 (aadd a114 7)), v115)] h132) (.act (apS 1 8 p116 n117 n118 p122 n123 n124) fun v125 => asSlice v125 fun p126 n127 n128 => asSome p90 fun a129 => .act (stC (aadd a129 7) [(.slice p126 n127 n128)]) fun v130 => asTuple v130 fun l131 => asNil l131 (.ret .normal [])))) (T143k0)) else (.ret (.exit 1) []))

noncomputable def T143k1 : Ex → List Value → Pg :=
  fun e148 l149 => sw e148 .normal (asNil l149 (.ret .normal [])) (.fail)

noncomputable def T143k2 (p0 : (Option Addr)) (p90 : (Option Addr)) : Ex → List Value → Pg :=
  fun e136 l137 => sw e136 (.exit 1) (asNil l137 (.call 66 [(.pointer p0), (.string (bs [41]))] fun v138 => asTuple v138 fun l139 => asNil l139 (asSome p0 fun a140 => .act (ld1 (aadd a140 3)) fun v141 => asBool v141 fun b142 => .join (bif (!b142) then (.call 142 [(.pointer p0)] fun v143 => asInt .i64 v143 fun i144 => asSome p90 fun a145 => .act (stC (aadd (aadd a145 0) 6) [(.int .i64 i144)]) fun v146 => asTuple v146 fun l147 => asNil l147 (.ret .normal [])) else (.ret .normal [])) (T143k1)))) (.fail)

noncomputable def T143k3 (p90 : (Option Addr)) : Ex → List Value → Pg :=
  fun e152 l153 => sw e152 .normal (asNil l153 (.ret .ret [(.pointer p90)])) (.fail)

noncomputable def T143k4 : Ex → List Value → Pg :=
  fun e154 l155 => sw e154 .ret (asCons l155 fun v156 l157 => asPtr v156 fun p158 => asNil l157 (.ret .ret [(.pointer p158)])) (sw e154 .normal (asCons l155 fun v159 l160 => asPtr v159 fun p161 => asNil l160 (.ret .normal [(.pointer p161)])) (.fail))

noncomputable def T143k5 (p0 : (Option Addr)) (a17 : Addr) : Ex → List Value → Pg :=
  fun e63 l64 => sw e63 .normal (asCons l64 fun v65 l66 => asBool v65 fun b67 => asNil l66 (bif b67 then (.call 137 [(.pointer p0), (.agg #[(.int .i64 24), (.int .i64 0), (.string (bs [])), (.string (bs [])), (.slice none 0 0), (.int .i64 0), (.int .i64 0)])] fun v68 => asPtr v68 fun p69 => .ret .ret [(.pointer p69)]) else (.call 64 [(.pointer p0), (.string (bs [40]))] fun v70 => asBool v70 fun b71 => .join (bif b71 then (.call 66 [(.pointer p0), (.string (bs [41]))] fun v72 => asTuple v72 fun l73 => asNil l73 (asSome p0 fun a74 => .act (ld1 (aadd a74 3)) fun v75 => asBool v75 fun b76 => bif (!b76) then (.act (ld1 (aadd a17 2)) fun v77 => asInt .i64 v77 fun i78 => .call 142 [(.pointer p0)] fun v79 => asInt .i64 v79 fun i80 => .get fun h84 => grd (chks [((ld1 (aadd a17 2)), v77)] h84) (.act (newC [(.int .i64 25), (.int .i64 0), (.string (bs [])), (.string (bs [])), (.slice none 0 0), (.int .i64 i78), (.int .i64 i80), (.slice none 0 0)]) fun v81 => asPtr v81 fun p82 => asSome p82 fun a83 => .ret .ret [(.pointer (some a83))])) else (.ret .normal [(.pointer none)]))) else (.act (ld1 (aadd a17 0)) fun v85 => asInt .i64 v85 fun i86 => bif (i86 == 3) then (.act (ld1 (aadd a17 1)) fun v87 => asStr v87 fun s88 => .call 137 [(.pointer p0), (.agg #[(.int .i64 26), (.int .i64 0), (.string s88), (.string (bs [])), (.slice none 0 0), (.int .i64 0), (.int .i64 0)])] fun v89 => asPtr v89 fun p90 => .call 64 [(.pointer p0), (.string (bs [40]))] fun v91 => asBool v91 fun b92 => .join (bif b92 then (asSome p90 fun a93 => .act (ld1 (aadd a93 7)) fun v94 => asSlice v94 fun p95 n96 n97 => .call 143 [(.pointer p0)] fun v98 => asPtr v98 fun p99 => .get fun h151 => grd (chks [((ld1 (aadd a93 7)), v94)] h151) (.act (bdSl 1 1 [(.pointer p99)]) fun v100 => asSlice v100 fun p101 n102 n103 => .get fun h150 => grd (chks [((ld1 (aadd a93 7)), v94)] h150) (.act (apS 1 8 p95 n96 n97 p101 n102 n103) fun v104 => asSlice v104 fun p105 n106 n107 => asSome p90 fun a108 => .act (stC (aadd a108 7) [(.slice p105 n106 n107)]) fun v109 => asTuple v109 fun l110 => asNil l110 (.loop [] (T143b0 p0 p90) (T143k2 p0 p90))))) else (.ret .normal [])) (T143k3 p90)) else (.ret .normal [(.pointer none)]))) (T143k4)))) (.fail)

noncomputable def T143k6 (p0 : (Option Addr)) (a17 : Addr) : Ex → List Value → Pg :=
  fun e52 l53 => sw e52 .normal (asCons l53 fun v54 l55 => asBool v54 fun b56 => asNil l55 (bif b56 then (.call 137 [(.pointer p0), (.agg #[(.int .i64 24), (.int .i64 1), (.string (bs [])), (.string (bs [])), (.slice none 0 0), (.int .i64 0), (.int .i64 0)])] fun v57 => asPtr v57 fun p58 => .ret .ret [(.pointer p58)]) else (.join (.act (ld1 (aadd a17 0)) fun v59 => asInt .i64 v59 fun i60 => bif (i60 == 4) == true then (.act (ld1 (aadd a17 1)) fun v61 => asStr v61 fun s62 => .ret .normal [(.bool (s62.toList == (bs [102, 97, 108, 115, 101]).toList))]) else (.ret .normal [(.bool false)])) (T143k5 p0 a17)))) (.fail)

noncomputable def T143k7 (p0 : (Option Addr)) (a17 : Addr) : Ex → List Value → Pg :=
  fun e27 l28 => sw e27 .normal (asCons l28 fun v29 l30 => asBool v29 fun b31 => asNil l30 (bif b31 then (.call 137 [(.pointer p0), (.agg #[(.int .i64 21), (.int .i64 0), (.string (bs [])), (.string (bs [])), (.slice none 0 0), (.int .i64 0), (.int .i64 0)])] fun v32 => asPtr v32 fun p33 => .ret .ret [(.pointer p33)]) else (.act (ld1 (aadd a17 0)) fun v34 => asInt .i64 v34 fun i35 => bif (i35 == 2) then (.act (ld1 (aadd a17 1)) fun v36 => asStr v36 fun s37 => .call 137 [(.pointer p0), (.agg #[(.int .i64 22), (.int .i64 0), (.string s37), (.string (bs [])), (.slice none 0 0), (.int .i64 0), (.int .i64 0)])] fun v38 => asPtr v38 fun p39 => .ret .ret [(.pointer p39)]) else (.act (ld1 (aadd a17 0)) fun v40 => asInt .i64 v40 fun i41 => bif (i41 == 1) then (.act (ld1 (aadd a17 1)) fun v42 => asStr v42 fun s43 => .call 138 [(.string s43)] fun v44 => asInt .i64 v44 fun i45 => .call 137 [(.pointer p0), (.agg #[(.int .i64 23), (.int .i64 i45), (.string (bs [])), (.string (bs [])), (.slice none 0 0), (.int .i64 0), (.int .i64 0)])] fun v46 => asPtr v46 fun p47 => .ret .ret [(.pointer p47)]) else (.join (.act (ld1 (aadd a17 0)) fun v48 => asInt .i64 v48 fun i49 => bif (i49 == 4) == true then (.act (ld1 (aadd a17 1)) fun v50 => asStr v50 fun s51 => .ret .normal [(.bool (s51.toList == (bs [116, 114, 117, 101]).toList))]) else (.ret .normal [(.bool false)])) (T143k6 p0 a17)))))) (.fail)

noncomputable def T143k8 : Ex → List Value → Pg :=
  fun e162 l163 => sw e162 .normal (asCons l163 fun v164 l165 => asPtr v164 fun p166 => asNil l165 (.ret .normal [(.pointer p166)])) (sw e162 .ret (asCons l163 fun v167 l168 => asPtr v167 fun p169 => asNil l168 (.ret .ret [(.pointer p169)])) (.fail))

noncomputable def T143k9 (p0 : (Option Addr)) : Ex → List Value → Pg :=
  fun e170 l171 => sw e170 .normal (asCons l171 fun v172 l173 => asPtr v172 fun p174 => asNil l173 (asSome p0 fun a175 => .act (stC (aadd a175 3) [(.bool true)]) fun v176 => asTuple v176 fun l177 => asNil l177 (.call 136 [] fun v178 => asPtr v178 fun p179 => .ret .ret [(.pointer p179)]))) (sw e170 .ret (asCons l171 fun v180 l181 => asPtr v180 fun p182 => asNil l181 (.ret .ret [(.pointer p182)])) (.fail))

/-- (*hindsight/hindsightref3.reader).pat -/
noncomputable def T143 (p0 : (Option Addr)) : Pg :=
  .call 45 [(.pointer p0)] fun v1 => asAgg v1 fun l2 => asCons l2 fun v3 l4 => asInt .i64 v3 fun i5 => asCons l4 fun v6 l7 => asStr v6 fun s8 => asCons l7 fun v9 l10 => asInt .i64 v9 fun i11 => asCons l10 fun v12 l13 => asInt .i64 v12 fun i14 => asNil l13 (.act (newC [(.int .i64 0), (.string (bs [])), (.int .i64 0), (.int .i64 0)]) fun v15 => asPtr v15 fun p16 => asSome p16 fun a17 => .act (stC a17 [(.int .i64 i5), (.string s8), (.int .i64 i11), (.int .i64 i14)]) fun v18 => asTuple v18 fun l19 => asNil l19 (.join (asSome p0 fun a20 => .act (ld1 (aadd a20 3)) fun v21 => asBool v21 fun b22 => .join (bif b22 then (.ret .normal [(.pointer none)]) else (.join (.act (ld1 (aadd a17 0)) fun v23 => asInt .i64 v23 fun i24 => bif (i24 == 2) == true then (.act (ld1 (aadd a17 1)) fun v25 => asStr v25 fun s26 => .ret .normal [(.bool (s26.toList == (bs [95]).toList))]) else (.ret .normal [(.bool false)])) (T143k7 p0 a17))) (T143k8)) (T143k9 p0)))
theorem T143_eq (p0 : (Option Addr)) : progOf PROG false 143 [(.pointer p0)] = T143 p0 := by kernel_rfl

noncomputable def A3 (args : List Value) : Option Pg := some (progOf PROG false 3 args)
theorem A3_ok : ∀ args p, A3 args = some p → progOf PROG false 3 args = p := fun args p h => Option.some.inj h
noncomputable def A5 : List Value → Option Pg
  | [] => some (T5)
  | _ => none
theorem A5_ok : ∀ args p, A5 args = some p → progOf PROG false 5 args = p := by
  intro args p h
  unfold A5 at h
  split at h
  · cases h; exact T5_eq 
  · cases h
noncomputable def A6 : List Value → Option Pg
  | [(.string s0)] => some (T6 s0)
  | _ => none
theorem A6_ok : ∀ args p, A6 args = some p → progOf PROG false 6 args = p := by
  intro args p h
  unfold A6 at h
  split at h
  · cases h; exact T6_eq _
  · cases h
noncomputable def A7 : List Value → Option Pg
  | [(.agg c0)] => (match c0.toList with
    | [(.slice p0 n1 n2), (.slice p3 n4 n5)] => some (T7 p0 n1 n2 p3 n4 n5)
    | _ => none)
  | _ => none
theorem A7_ok : ∀ args p, A7 args = some p → progOf PROG false 7 args = p := by
  intro args p h
  unfold A7 at h
  split at h
  · split at h
    · rename_i e0
      have f0 := agg_of e0
      subst f0
      cases h
      exact T7_eq _ _ _ _ _ _
    · cases h
  · cases h
noncomputable def A8 : List Value → Option Pg
  | [(.agg c0), (.slice p6 n7 n8)] => (match c0.toList with
    | [(.slice p0 n1 n2), (.slice p3 n4 n5)] => some (T8 p0 n1 n2 p3 n4 n5 p6 n7 n8)
    | _ => none)
  | _ => none
theorem A8_ok : ∀ args p, A8 args = some p → progOf PROG false 8 args = p := by
  intro args p h
  unfold A8 at h
  split at h
  · split at h
    · rename_i e0
      have f0 := agg_of e0
      subst f0
      cases h
      exact T8_eq _ _ _ _ _ _ _ _ _
    · cases h
  · cases h
noncomputable def A13 : List Value → Option Pg
  | [(.string s0)] => some (T13 s0)
  | _ => none
theorem A13_ok : ∀ args p, A13 args = some p → progOf PROG false 13 args = p := by
  intro args p h
  unfold A13 at h
  split at h
  · cases h; exact T13_eq _
  · cases h
noncomputable def A14 : List Value → Option Pg
  | [(.agg c0)] => (match c0.toList with
    | [(.slice p0 n1 n2), (.slice p3 n4 n5)] => some (T14 p0 n1 n2 p3 n4 n5)
    | _ => none)
  | _ => none
theorem A14_ok : ∀ args p, A14 args = some p → progOf PROG false 14 args = p := by
  intro args p h
  unfold A14 at h
  split at h
  · split at h
    · rename_i e0
      have f0 := agg_of e0
      subst f0
      cases h
      exact T14_eq _ _ _ _ _ _
    · cases h
  · cases h
noncomputable def A15 : List Value → Option Pg
  | [(.agg c0), (.int .i64 i6)] => (match c0.toList with
    | [(.slice p0 n1 n2), (.slice p3 n4 n5)] => some (T15 p0 n1 n2 p3 n4 n5 i6)
    | _ => none)
  | _ => none
theorem A15_ok : ∀ args p, A15 args = some p → progOf PROG false 15 args = p := by
  intro args p h
  unfold A15 at h
  split at h
  · split at h
    · rename_i e0
      have f0 := agg_of e0
      subst f0
      cases h
      exact T15_eq _ _ _ _ _ _ _
    · cases h
  · cases h
noncomputable def A16 : List Value → Option Pg
  | [(.slice p0 n1 n2), (.int .i64 i3)] => some (T16 p0 n1 n2 i3)
  | _ => none
theorem A16_ok : ∀ args p, A16 args = some p → progOf PROG false 16 args = p := by
  intro args p h
  unfold A16 at h
  split at h
  · cases h; exact T16_eq _ _ _ _
  · cases h
noncomputable def A17 : List Value → Option Pg
  | [(.pointer p0), (.slice p1 n2 n3), (.slice p4 n5 n6)] => some (T17 p0 p1 n2 n3 p4 n5 n6)
  | _ => none
theorem A17_ok : ∀ args p, A17 args = some p → progOf PROG false 17 args = p := by
  intro args p h
  unfold A17 at h
  split at h
  · cases h; exact T17_eq _ _ _ _ _ _ _
  · cases h
noncomputable def A26 : List Value → Option Pg
  | [(.string s0)] => some (T26 s0)
  | _ => none
theorem A26_ok : ∀ args p, A26 args = some p → progOf PROG false 26 args = p := by
  intro args p h
  unfold A26 at h
  split at h
  · cases h; exact T26_eq _
  · cases h
noncomputable def A28 : List Value → Option Pg
  | [(.slice p0 n1 n2)] => some (T28 p0 n1 n2)
  | _ => none
theorem A28_ok : ∀ args p, A28 args = some p → progOf PROG false 28 args = p := by
  intro args p h
  unfold A28 at h
  split at h
  · cases h; exact T28_eq _ _ _
  · cases h
noncomputable def A29 : List Value → Option Pg
  | [(.pointer p0), (.bool b1), (.int .i64 i2)] => some (T29 p0 b1 i2)
  | _ => none
theorem A29_ok : ∀ args p, A29 args = some p → progOf PROG false 29 args = p := by
  intro args p h
  unfold A29 at h
  split at h
  · cases h; exact T29_eq _ _ _
  · cases h
noncomputable def A30 : List Value → Option Pg
  | [(.int .i64 i0)] => some (T30 i0)
  | _ => none
theorem A30_ok : ∀ args p, A30 args = some p → progOf PROG false 30 args = p := by
  intro args p h
  unfold A30 at h
  split at h
  · cases h; exact T30_eq _
  · cases h
noncomputable def A31 : List Value → Option Pg
  | [(.slice p0 n1 n2)] => some (T31 p0 n1 n2)
  | _ => none
theorem A31_ok : ∀ args p, A31 args = some p → progOf PROG false 31 args = p := by
  intro args p h
  unfold A31 at h
  split at h
  · cases h; exact T31_eq _ _ _
  · cases h
noncomputable def A32 : List Value → Option Pg
  | [(.agg c0), (.int .i64 i6)] => (match c0.toList with
    | [(.slice p0 n1 n2), (.slice p3 n4 n5)] => some (T32 p0 n1 n2 p3 n4 n5 i6)
    | _ => none)
  | _ => none
theorem A32_ok : ∀ args p, A32 args = some p → progOf PROG false 32 args = p := by
  intro args p h
  unfold A32 at h
  split at h
  · split at h
    · rename_i e0
      have f0 := agg_of e0
      subst f0
      cases h
      exact T32_eq _ _ _ _ _ _ _
    · cases h
  · cases h
noncomputable def A33 : List Value → Option Pg
  | [(.int .i64 i0)] => some (T33 i0)
  | _ => none
theorem A33_ok : ∀ args p, A33 args = some p → progOf PROG false 33 args = p := by
  intro args p h
  unfold A33 at h
  split at h
  · cases h; exact T33_eq _
  · cases h
noncomputable def A34 : List Value → Option Pg
  | [(.agg c0), (.slice p6 n7 n8), (.slice p9 n10 n11)] => (match c0.toList with
    | [(.slice p0 n1 n2), (.slice p3 n4 n5)] => some (T34 p0 n1 n2 p3 n4 n5 p6 n7 n8 p9 n10 n11)
    | _ => none)
  | _ => none
theorem A34_ok : ∀ args p, A34 args = some p → progOf PROG false 34 args = p := by
  intro args p h
  unfold A34 at h
  split at h
  · split at h
    · rename_i e0
      have f0 := agg_of e0
      subst f0
      cases h
      exact T34_eq _ _ _ _ _ _ _ _ _ _ _ _
    · cases h
  · cases h
noncomputable def A35 : List Value → Option Pg
  | [(.pointer p0), (.int .i64 i1)] => some (T35 p0 i1)
  | _ => none
theorem A35_ok : ∀ args p, A35 args = some p → progOf PROG false 35 args = p := by
  intro args p h
  unfold A35 at h
  split at h
  · cases h; exact T35_eq _ _
  · cases h
noncomputable def A36 : List Value → Option Pg
  | [(.pointer p0), (.slice p1 n2 n3), (.agg c0)] => (match c0.toList with
    | [(.int .i64 i4), (.int .i64 i5), (.string s6)] => some (T36 p0 p1 n2 n3 i4 i5 s6)
    | _ => none)
  | _ => none
theorem A36_ok : ∀ args p, A36 args = some p → progOf PROG false 36 args = p := by
  intro args p h
  unfold A36 at h
  split at h
  · split at h
    · rename_i e0
      have f0 := agg_of e0
      subst f0
      cases h
      exact T36_eq _ _ _ _ _ _ _
    · cases h
  · cases h
noncomputable def A37 : List Value → Option Pg
  | [(.pointer p0), (.slice p1 n2 n3), (.agg c0)] => (match c0.toList with
    | [(.int .i64 i4), (.int .i64 i5), (.string s6)] => some (T37 p0 p1 n2 n3 i4 i5 s6)
    | _ => none)
  | _ => none
theorem A37_ok : ∀ args p, A37 args = some p → progOf PROG false 37 args = p := by
  intro args p h
  unfold A37 at h
  split at h
  · split at h
    · rename_i e0
      have f0 := agg_of e0
      subst f0
      cases h
      exact T37_eq _ _ _ _ _ _ _
    · cases h
  · cases h
noncomputable def A38 : List Value → Option Pg
  | [(.pointer p0), (.slice p1 n2 n3)] => some (T38 p0 p1 n2 n3)
  | _ => none
theorem A38_ok : ∀ args p, A38 args = some p → progOf PROG false 38 args = p := by
  intro args p h
  unfold A38 at h
  split at h
  · cases h; exact T38_eq _ _ _ _
  · cases h
noncomputable def A39 : List Value → Option Pg
  | [(.pointer p0), (.slice p1 n2 n3)] => some (T39 p0 p1 n2 n3)
  | _ => none
theorem A39_ok : ∀ args p, A39 args = some p → progOf PROG false 39 args = p := by
  intro args p h
  unfold A39 at h
  split at h
  · cases h; exact T39_eq _ _ _ _
  · cases h
noncomputable def A42 : List Value → Option Pg
  | [(.string s0)] => some (T42 s0)
  | _ => none
theorem A42_ok : ∀ args p, A42 args = some p → progOf PROG false 42 args = p := by
  intro args p h
  unfold A42 at h
  split at h
  · cases h; exact T42_eq _
  · cases h
noncomputable def A43 : List Value → Option Pg
  | [(.pointer p0)] => some (T43 p0)
  | _ => none
theorem A43_ok : ∀ args p, A43 args = some p → progOf PROG false 43 args = p := by
  intro args p h
  unfold A43 at h
  split at h
  · cases h; exact T43_eq _
  · cases h
noncomputable def A44 : List Value → Option Pg
  | [(.pointer p0)] => some (T44 p0)
  | _ => none
theorem A44_ok : ∀ args p, A44 args = some p → progOf PROG false 44 args = p := by
  intro args p h
  unfold A44 at h
  split at h
  · cases h; exact T44_eq _
  · cases h
noncomputable def A45 : List Value → Option Pg
  | [(.pointer p0)] => some (T45 p0)
  | _ => none
theorem A45_ok : ∀ args p, A45 args = some p → progOf PROG false 45 args = p := by
  intro args p h
  unfold A45 at h
  split at h
  · cases h; exact T45_eq _
  · cases h
noncomputable def A46 : List Value → Option Pg
  | [(.pointer p0), (.pointer p1), (.int .i64 i2)] => some (T46 p0 p1 i2)
  | _ => none
theorem A46_ok : ∀ args p, A46 args = some p → progOf PROG false 46 args = p := by
  intro args p h
  unfold A46 at h
  split at h
  · cases h; exact T46_eq _ _ _
  · cases h
noncomputable def A47 : List Value → Option Pg
  | [(.agg c0)] => (match c0.toList with
    | [(.slice p0 n1 n2), (.slice p3 n4 n5)] => some (T47 p0 n1 n2 p3 n4 n5)
    | _ => none)
  | _ => none
theorem A47_ok : ∀ args p, A47 args = some p → progOf PROG false 47 args = p := by
  intro args p h
  unfold A47 at h
  split at h
  · split at h
    · rename_i e0
      have f0 := agg_of e0
      subst f0
      cases h
      exact T47_eq _ _ _ _ _ _
    · cases h
  · cases h
noncomputable def A48 : List Value → Option Pg
  | [(.string s0)] => some (T48 s0)
  | _ => none
theorem A48_ok : ∀ args p, A48 args = some p → progOf PROG false 48 args = p := by
  intro args p h
  unfold A48 at h
  split at h
  · cases h; exact T48_eq _
  · cases h
noncomputable def A49 : List Value → Option Pg
  | [(.string s0)] => some (T49 s0)
  | _ => none
theorem A49_ok : ∀ args p, A49 args = some p → progOf PROG false 49 args = p := by
  intro args p h
  unfold A49 at h
  split at h
  · cases h; exact T49_eq _
  · cases h
noncomputable def A50 : List Value → Option Pg
  | [(.string s0)] => some (T50 s0)
  | _ => none
theorem A50_ok : ∀ args p, A50 args = some p → progOf PROG false 50 args = p := by
  intro args p h
  unfold A50 at h
  split at h
  · cases h; exact T50_eq _
  · cases h
noncomputable def A51 : List Value → Option Pg
  | [(.string s0), (.pointer (some a1))] => some (T51 s0 a1)
  | _ => none
theorem A51_ok : ∀ args p, A51 args = some p → progOf PROG false 51 args = p := by
  intro args p h
  unfold A51 at h
  split at h
  · cases h; exact T51_eq _ _
  · cases h
noncomputable def A52 : List Value → Option Pg
  | [(.slice p0 n1 n2), (.string s3)] => some (T52 p0 n1 n2 s3)
  | _ => none
theorem A52_ok : ∀ args p, A52 args = some p → progOf PROG false 52 args = p := by
  intro args p h
  unfold A52 at h
  split at h
  · cases h; exact T52_eq _ _ _ _
  · cases h
noncomputable def A53 : List Value → Option Pg
  | [(.string s0), (.pointer (some a1))] => some (T53 s0 a1)
  | _ => none
theorem A53_ok : ∀ args p, A53 args = some p → progOf PROG false 53 args = p := by
  intro args p h
  unfold A53 at h
  split at h
  · cases h; exact T53_eq _ _
  · cases h
noncomputable def A54 : List Value → Option Pg
  | [(.slice p0 n1 n2), v3] => some (T54 p0 n1 n2 v3)
  | _ => none
theorem A54_ok : ∀ args p, A54 args = some p → progOf PROG false 54 args = p := by
  intro args p h
  unfold A54 at h
  split at h
  · cases h; exact T54_eq _ _ _ _
  · cases h
noncomputable def A55 : List Value → Option Pg
  | [(.agg c0), (.agg c1)] => (match c0.toList with
    | [(.slice p0 n1 n2), (.slice p3 n4 n5)] => (match c1.toList with
    | [(.int .i64 i6), (.int .i64 i7), (.string s8), (.string s9), (.slice p10 n11 n12), (.int .i64 i13), (.int .i64 i14)] => some (T55 p0 n1 n2 p3 n4 n5 i6 i7 s8 s9 p10 n11 n12 i13 i14)
    | _ => none)
    | _ => none)
  | _ => none
theorem A55_ok : ∀ args p, A55 args = some p → progOf PROG false 55 args = p := by
  intro args p h
  unfold A55 at h
  split at h
  · split at h
    · split at h
      · rename_i e0 d1 x1_0 x1_1 x1_2 x1_3 x1_4 x1_5 x1_6 x1_7 x1_8 e1
        have f0 := agg_of e0
        subst f0
        have f1 := agg_of e1
        subst f1
        cases h
        exact T55_eq _ _ _ _ _ _ _ _ _ _ _ _ _ _ _
      · cases h
    · cases h
  · cases h
noncomputable def A56 : List Value → Option Pg
  | [(.pointer p0), (.int .i64 i1)] => some (T56 p0 i1)
  | _ => none
theorem A56_ok : ∀ args p, A56 args = some p → progOf PROG false 56 args = p := by
  intro args p h
  unfold A56 at h
  split at h
  · cases h; exact T56_eq _ _
  · cases h
noncomputable def A57 : List Value → Option Pg
  | [(.pointer p0), (.agg c0)] => (match c0.toList with
    | [(.int .i64 i1), (.int .i64 i2), (.string s3)] => some (T57 p0 i1 i2 s3)
    | _ => none)
  | _ => none
theorem A57_ok : ∀ args p, A57 args = some p → progOf PROG false 57 args = p := by
  intro args p h
  unfold A57 at h
  split at h
  · split at h
    · rename_i e0
      have f0 := agg_of e0
      subst f0
      cases h
      exact T57_eq _ _ _ _
    · cases h
  · cases h
noncomputable def A58 : List Value → Option Pg
  | [(.agg c0), (.string s6)] => (match c0.toList with
    | [(.slice p0 n1 n2), (.slice p3 n4 n5)] => some (T58 p0 n1 n2 p3 n4 n5 s6)
    | _ => none)
  | _ => none
theorem A58_ok : ∀ args p, A58 args = some p → progOf PROG false 58 args = p := by
  intro args p h
  unfold A58 at h
  split at h
  · split at h
    · rename_i e0
      have f0 := agg_of e0
      subst f0
      cases h
      exact T58_eq _ _ _ _ _ _ _
    · cases h
  · cases h
noncomputable def A60 : List Value → Option Pg
  | [(.string s0)] => some (T60 s0)
  | _ => none
theorem A60_ok : ∀ args p, A60 args = some p → progOf PROG false 60 args = p := by
  intro args p h
  unfold A60 at h
  split at h
  · cases h; exact T60_eq _
  · cases h
noncomputable def A61 : List Value → Option Pg
  | [(.int .i32 i0)] => some (T61 i0)
  | _ => none
theorem A61_ok : ∀ args p, A61 args = some p → progOf PROG false 61 args = p := by
  intro args p h
  unfold A61 at h
  split at h
  · cases h; exact T61_eq _
  · cases h
noncomputable def A62 : List Value → Option Pg
  | [(.string s0), (.int .i64 i1)] => some (T62 s0 i1)
  | _ => none
theorem A62_ok : ∀ args p, A62 args = some p → progOf PROG false 62 args = p := by
  intro args p h
  unfold A62 at h
  split at h
  · cases h; exact T62_eq _ _
  · cases h
noncomputable def A63 : List Value → Option Pg
  | [(.string s0), (.int .i64 i1)] => some (T63 s0 i1)
  | _ => none
theorem A63_ok : ∀ args p, A63 args = some p → progOf PROG false 63 args = p := by
  intro args p h
  unfold A63 at h
  split at h
  · cases h; exact T63_eq _ _
  · cases h
noncomputable def A64 : List Value → Option Pg
  | [(.pointer p0), (.string s1)] => some (T64 p0 s1)
  | _ => none
theorem A64_ok : ∀ args p, A64 args = some p → progOf PROG false 64 args = p := by
  intro args p h
  unfold A64 at h
  split at h
  · cases h; exact T64_eq _ _
  · cases h
noncomputable def A65 : List Value → Option Pg
  | [(.pointer p0), (.int .i64 i1)] => some (T65 p0 i1)
  | _ => none
theorem A65_ok : ∀ args p, A65 args = some p → progOf PROG false 65 args = p := by
  intro args p h
  unfold A65 at h
  split at h
  · cases h; exact T65_eq _ _
  · cases h
noncomputable def A66 : List Value → Option Pg
  | [(.pointer p0), (.string s1)] => some (T66 p0 s1)
  | _ => none
theorem A66_ok : ∀ args p, A66 args = some p → progOf PROG false 66 args = p := by
  intro args p h
  unfold A66 at h
  split at h
  · cases h; exact T66_eq _ _
  · cases h
noncomputable def A67 : List Value → Option Pg
  | [(.pointer p0)] => some (T67 p0)
  | _ => none
theorem A67_ok : ∀ args p, A67 args = some p → progOf PROG false 67 args = p := by
  intro args p h
  unfold A67 at h
  split at h
  · cases h; exact T67_eq _
  · cases h
noncomputable def A68 : List Value → Option Pg
  | [(.int .i64 i0), (.string s1), (.pointer p2), (.pointer p3)] => some (T68 i0 s1 p2 p3)
  | _ => none
theorem A68_ok : ∀ args p, A68 args = some p → progOf PROG false 68 args = p := by
  intro args p h
  unfold A68 at h
  split at h
  · cases h; exact T68_eq _ _ _ _
  · cases h
noncomputable def A69 : List Value → Option Pg
  | [(.agg c0)] => (match c0.toList with
    | [(.slice p0 n1 n2), (.slice p3 n4 n5)] => some (T69 p0 n1 n2 p3 n4 n5)
    | _ => none)
  | _ => none
theorem A69_ok : ∀ args p, A69 args = some p → progOf PROG false 69 args = p := by
  intro args p h
  unfold A69 at h
  split at h
  · split at h
    · rename_i e0
      have f0 := agg_of e0
      subst f0
      cases h
      exact T69_eq _ _ _ _ _ _
    · cases h
  · cases h
noncomputable def A70 : List Value → Option Pg
  | [(.agg c0), (.int .i64 i6), (.bool b7), (.int .i64 i8)] => (match c0.toList with
    | [(.slice p0 n1 n2), (.slice p3 n4 n5)] => some (T70 p0 n1 n2 p3 n4 n5 i6 b7 i8)
    | _ => none)
  | _ => none
theorem A70_ok : ∀ args p, A70 args = some p → progOf PROG false 70 args = p := by
  intro args p h
  unfold A70 at h
  split at h
  · split at h
    · rename_i e0
      have f0 := agg_of e0
      subst f0
      cases h
      exact T70_eq _ _ _ _ _ _ _ _ _
    · cases h
  · cases h
noncomputable def A71 : List Value → Option Pg
  | [(.string s0), (.int .i64 i1)] => some (T71 s0 i1)
  | _ => none
theorem A71_ok : ∀ args p, A71 args = some p → progOf PROG false 71 args = p := by
  intro args p h
  unfold A71 at h
  split at h
  · cases h; exact T71_eq _ _
  · cases h
noncomputable def A72 : List Value → Option Pg
  | [(.slice p0 n1 n2), (.string s3)] => some (T72 p0 n1 n2 s3)
  | _ => none
theorem A72_ok : ∀ args p, A72 args = some p → progOf PROG false 72 args = p := by
  intro args p h
  unfold A72 at h
  split at h
  · cases h; exact T72_eq _ _ _ _
  · cases h
noncomputable def A73 : List Value → Option Pg
  | [(.slice p0 n1 n2), v3] => some (T73 p0 n1 n2 v3)
  | _ => none
theorem A73_ok : ∀ args p, A73 args = some p → progOf PROG false 73 args = p := by
  intro args p h
  unfold A73 at h
  split at h
  · cases h; exact T73_eq _ _ _ _
  · cases h
noncomputable def A74 : List Value → Option Pg
  | [(.agg c0)] => (match c0.toList with
    | [(.int .i64 i0), (.int .i64 i1), (.string s2), (.string s3), (.slice p4 n5 n6), (.int .i64 i7), (.int .i64 i8)] => some (T74 i0 i1 s2 s3 p4 n5 n6 i7 i8)
    | _ => none)
  | _ => none
theorem A74_ok : ∀ args p, A74 args = some p → progOf PROG false 74 args = p := by
  intro args p h
  unfold A74 at h
  split at h
  · split at h
    · rename_i e0
      have f0 := agg_of e0
      subst f0
      cases h
      exact T74_eq _ _ _ _ _ _ _ _ _
    · cases h
  · cases h
noncomputable def A75 : List Value → Option Pg
  | [(.agg c0)] => (match c0.toList with
    | [(.int .i64 i0), (.int .i64 i1), (.string s2), (.string s3), (.slice p4 n5 n6), (.int .i64 i7), (.int .i64 i8)] => some (T75 i0 i1 s2 s3 p4 n5 n6 i7 i8)
    | _ => none)
  | _ => none
theorem A75_ok : ∀ args p, A75 args = some p → progOf PROG false 75 args = p := by
  intro args p h
  unfold A75 at h
  split at h
  · split at h
    · rename_i e0
      have f0 := agg_of e0
      subst f0
      cases h
      exact T75_eq _ _ _ _ _ _ _ _ _
    · cases h
  · cases h
noncomputable def A76 : List Value → Option Pg
  | [(.int .i64 i0)] => some (T76 i0)
  | _ => none
theorem A76_ok : ∀ args p, A76 args = some p → progOf PROG false 76 args = p := by
  intro args p h
  unfold A76 at h
  split at h
  · cases h; exact T76_eq _
  · cases h
noncomputable def A81 : List Value → Option Pg
  | [(.string s0)] => some (T81 s0)
  | _ => none
theorem A81_ok : ∀ args p, A81 args = some p → progOf PROG false 81 args = p := by
  intro args p h
  unfold A81 at h
  split at h
  · cases h; exact T81_eq _
  · cases h
noncomputable def A83 : List Value → Option Pg
  | [(.string s0)] => some (T83 s0)
  | _ => none
theorem A83_ok : ∀ args p, A83 args = some p → progOf PROG false 83 args = p := by
  intro args p h
  unfold A83 at h
  split at h
  · cases h; exact T83_eq _
  · cases h
noncomputable def A84 : List Value → Option Pg
  | [(.pointer p0), (.string s1)] => some (T84 p0 s1)
  | _ => none
theorem A84_ok : ∀ args p, A84 args = some p → progOf PROG false 84 args = p := by
  intro args p h
  unfold A84 at h
  split at h
  · cases h; exact T84_eq _ _
  · cases h
noncomputable def A85 : List Value → Option Pg
  | [(.pointer p0)] => some (T85 p0)
  | _ => none
theorem A85_ok : ∀ args p, A85 args = some p → progOf PROG false 85 args = p := by
  intro args p h
  unfold A85 at h
  split at h
  · cases h; exact T85_eq _
  · cases h
noncomputable def A86 : List Value → Option Pg
  | [(.string s0)] => some (T86 s0)
  | _ => none
theorem A86_ok : ∀ args p, A86 args = some p → progOf PROG false 86 args = p := by
  intro args p h
  unfold A86 at h
  split at h
  · cases h; exact T86_eq _
  · cases h
noncomputable def A87 : List Value → Option Pg
  | [(.string s0)] => some (T87 s0)
  | _ => none
theorem A87_ok : ∀ args p, A87 args = some p → progOf PROG false 87 args = p := by
  intro args p h
  unfold A87 at h
  split at h
  · cases h; exact T87_eq _
  · cases h
noncomputable def A88 : List Value → Option Pg
  | [(.slice p0 n1 n2)] => some (T88 p0 n1 n2)
  | _ => none
theorem A88_ok : ∀ args p, A88 args = some p → progOf PROG false 88 args = p := by
  intro args p h
  unfold A88 at h
  split at h
  · cases h; exact T88_eq _ _ _
  · cases h
noncomputable def A89 : List Value → Option Pg
  | [(.slice p0 n1 n2), (.string s3)] => some (T89 p0 n1 n2 s3)
  | _ => none
theorem A89_ok : ∀ args p, A89 args = some p → progOf PROG false 89 args = p := by
  intro args p h
  unfold A89 at h
  split at h
  · cases h; exact T89_eq _ _ _ _
  · cases h
noncomputable def A90 : List Value → Option Pg
  | [(.agg c0)] => (match c0.toList with
    | [(.int .i64 i0), (.int .i64 i1), (.string s2), (.string s3), (.slice p4 n5 n6), (.int .i64 i7), (.int .i64 i8)] => some (T90 i0 i1 s2 s3 p4 n5 n6 i7 i8)
    | _ => none)
  | _ => none
theorem A90_ok : ∀ args p, A90 args = some p → progOf PROG false 90 args = p := by
  intro args p h
  unfold A90 at h
  split at h
  · split at h
    · rename_i e0
      have f0 := agg_of e0
      subst f0
      cases h
      exact T90_eq _ _ _ _ _ _ _ _ _
    · cases h
  · cases h
noncomputable def A91 : List Value → Option Pg
  | [(.agg c0), (.string s6)] => (match c0.toList with
    | [(.slice p0 n1 n2), (.slice p3 n4 n5)] => some (T91 p0 n1 n2 p3 n4 n5 s6)
    | _ => none)
  | _ => none
theorem A91_ok : ∀ args p, A91 args = some p → progOf PROG false 91 args = p := by
  intro args p h
  unfold A91 at h
  split at h
  · split at h
    · rename_i e0
      have f0 := agg_of e0
      subst f0
      cases h
      exact T91_eq _ _ _ _ _ _ _
    · cases h
  · cases h
noncomputable def A92 : List Value → Option Pg
  | [(.agg c0), (.int .i64 i6)] => (match c0.toList with
    | [(.slice p0 n1 n2), (.slice p3 n4 n5)] => some (T92 p0 n1 n2 p3 n4 n5 i6)
    | _ => none)
  | _ => none
theorem A92_ok : ∀ args p, A92 args = some p → progOf PROG false 92 args = p := by
  intro args p h
  unfold A92 at h
  split at h
  · split at h
    · rename_i e0
      have f0 := agg_of e0
      subst f0
      cases h
      exact T92_eq _ _ _ _ _ _ _
    · cases h
  · cases h
noncomputable def A93 : List Value → Option Pg
  | [(.string s0)] => some (T93 s0)
  | _ => none
theorem A93_ok : ∀ args p, A93 args = some p → progOf PROG false 93 args = p := by
  intro args p h
  unfold A93 at h
  split at h
  · cases h; exact T93_eq _
  · cases h
noncomputable def A107 : List Value → Option Pg
  | [(.pointer p0)] => some (T107 p0)
  | _ => none
theorem A107_ok : ∀ args p, A107 args = some p → progOf PROG false 107 args = p := by
  intro args p h
  unfold A107 at h
  split at h
  · cases h; exact T107_eq _
  · cases h
noncomputable def A108 : List Value → Option Pg
  | [(.string s0)] => some (T108 s0)
  | _ => none
theorem A108_ok : ∀ args p, A108 args = some p → progOf PROG false 108 args = p := by
  intro args p h
  unfold A108 at h
  split at h
  · cases h; exact T108_eq _
  · cases h
noncomputable def A109 : List Value → Option Pg
  | [] => some (T109)
  | _ => none
theorem A109_ok : ∀ args p, A109 args = some p → progOf PROG false 109 args = p := by
  intro args p h
  unfold A109 at h
  split at h
  · cases h; exact T109_eq 
  · cases h
noncomputable def A110 : List Value → Option Pg
  | [(.string s0)] => some (T110 s0)
  | _ => none
theorem A110_ok : ∀ args p, A110 args = some p → progOf PROG false 110 args = p := by
  intro args p h
  unfold A110 at h
  split at h
  · cases h; exact T110_eq _
  · cases h
noncomputable def A111 : List Value → Option Pg
  | [(.int .i32 i0)] => some (T111 i0)
  | _ => none
theorem A111_ok : ∀ args p, A111 args = some p → progOf PROG false 111 args = p := by
  intro args p h
  unfold A111 at h
  split at h
  · cases h; exact T111_eq _
  · cases h
noncomputable def A112 : List Value → Option Pg
  | [(.string s0)] => some (T112 s0)
  | _ => none
theorem A112_ok : ∀ args p, A112 args = some p → progOf PROG false 112 args = p := by
  intro args p h
  unfold A112 at h
  split at h
  · cases h; exact T112_eq _
  · cases h
noncomputable def A113 : List Value → Option Pg
  | [(.string s0), v1] => some (T113 s0 v1)
  | _ => none
theorem A113_ok : ∀ args p, A113 args = some p → progOf PROG false 113 args = p := by
  intro args p h
  unfold A113 at h
  split at h
  · cases h; exact T113_eq _ _
  · cases h
noncomputable def A114 : List Value → Option Pg
  | [(.int .i32 i0)] => some (T114 i0)
  | _ => none
theorem A114_ok : ∀ args p, A114 args = some p → progOf PROG false 114 args = p := by
  intro args p h
  unfold A114 at h
  split at h
  · cases h; exact T114_eq _
  · cases h
noncomputable def A115 : List Value → Option Pg
  | [(.string s0)] => some (T115 s0)
  | _ => none
theorem A115_ok : ∀ args p, A115 args = some p → progOf PROG false 115 args = p := by
  intro args p h
  unfold A115 at h
  split at h
  · cases h; exact T115_eq _
  · cases h
noncomputable def A116 : List Value → Option Pg
  | [(.string s0)] => some (T116 s0)
  | _ => none
theorem A116_ok : ∀ args p, A116 args = some p → progOf PROG false 116 args = p := by
  intro args p h
  unfold A116 at h
  split at h
  · cases h; exact T116_eq _
  · cases h
noncomputable def A124 : List Value → Option Pg
  | [(.pointer p0)] => some (T124 p0)
  | _ => none
theorem A124_ok : ∀ args p, A124 args = some p → progOf PROG false 124 args = p := by
  intro args p h
  unfold A124 at h
  split at h
  · cases h; exact T124_eq _
  · cases h
noncomputable def A125 : List Value → Option Pg
  | [(.string s0)] => some (T125 s0)
  | _ => none
theorem A125_ok : ∀ args p, A125 args = some p → progOf PROG false 125 args = p := by
  intro args p h
  unfold A125 at h
  split at h
  · cases h; exact T125_eq _
  · cases h
noncomputable def A126 : List Value → Option Pg
  | [(.int .i32 i0)] => some (T126 i0)
  | _ => none
theorem A126_ok : ∀ args p, A126 args = some p → progOf PROG false 126 args = p := by
  intro args p h
  unfold A126 at h
  split at h
  · cases h; exact T126_eq _
  · cases h
noncomputable def A127 : List Value → Option Pg
  | [(.string s0)] => some (T127 s0)
  | _ => none
theorem A127_ok : ∀ args p, A127 args = some p → progOf PROG false 127 args = p := by
  intro args p h
  unfold A127 at h
  split at h
  · cases h; exact T127_eq _
  · cases h
noncomputable def A128 : List Value → Option Pg
  | [(.string s0)] => some (T128 s0)
  | _ => none
theorem A128_ok : ∀ args p, A128 args = some p → progOf PROG false 128 args = p := by
  intro args p h
  unfold A128 at h
  split at h
  · cases h; exact T128_eq _
  · cases h
noncomputable def A129 : List Value → Option Pg
  | [(.string s0), (.string s1)] => some (T129 s0 s1)
  | _ => none
theorem A129_ok : ∀ args p, A129 args = some p → progOf PROG false 129 args = p := by
  intro args p h
  unfold A129 at h
  split at h
  · cases h; exact T129_eq _ _
  · cases h
noncomputable def A131 : List Value → Option Pg
  | [(.pointer p0)] => some (T131 p0)
  | _ => none
theorem A131_ok : ∀ args p, A131 args = some p → progOf PROG false 131 args = p := by
  intro args p h
  unfold A131 at h
  split at h
  · cases h; exact T131_eq _
  · cases h
noncomputable def A132 : List Value → Option Pg
  | [(.string s0), (.string s1)] => some (T132 s0 s1)
  | _ => none
theorem A132_ok : ∀ args p, A132 args = some p → progOf PROG false 132 args = p := by
  intro args p h
  unfold A132 at h
  split at h
  · cases h; exact T132_eq _ _
  · cases h
noncomputable def A133 : List Value → Option Pg
  | [(.pointer p0)] => some (T133 p0)
  | _ => none
theorem A133_ok : ∀ args p, A133 args = some p → progOf PROG false 133 args = p := by
  intro args p h
  unfold A133 at h
  split at h
  · cases h; exact T133_eq _
  · cases h
noncomputable def A134 : List Value → Option Pg
  | [(.pointer p0)] => some (T134 p0)
  | _ => none
theorem A134_ok : ∀ args p, A134 args = some p → progOf PROG false 134 args = p := by
  intro args p h
  unfold A134 at h
  split at h
  · cases h; exact T134_eq _
  · cases h
noncomputable def A135 : List Value → Option Pg
  | [(.pointer p0)] => some (T135 p0)
  | _ => none
theorem A135_ok : ∀ args p, A135 args = some p → progOf PROG false 135 args = p := by
  intro args p h
  unfold A135 at h
  split at h
  · cases h; exact T135_eq _
  · cases h
noncomputable def A136 : List Value → Option Pg
  | [] => some (T136)
  | _ => none
theorem A136_ok : ∀ args p, A136 args = some p → progOf PROG false 136 args = p := by
  intro args p h
  unfold A136 at h
  split at h
  · cases h; exact T136_eq 
  · cases h
noncomputable def A137 : List Value → Option Pg
  | [(.pointer p0), (.agg c0)] => (match c0.toList with
    | [(.int .i64 i1), (.int .i64 i2), (.string s3), (.string s4), (.slice p5 n6 n7), (.int .i64 i8), (.int .i64 i9)] => some (T137 p0 i1 i2 s3 s4 p5 n6 n7 i8 i9)
    | _ => none)
  | _ => none
theorem A137_ok : ∀ args p, A137 args = some p → progOf PROG false 137 args = p := by
  intro args p h
  unfold A137 at h
  split at h
  · split at h
    · rename_i e0
      have f0 := agg_of e0
      subst f0
      cases h
      exact T137_eq _ _ _ _ _ _ _ _ _ _
    · cases h
  · cases h
noncomputable def A138 : List Value → Option Pg
  | [(.string s0)] => some (T138 s0)
  | _ => none
theorem A138_ok : ∀ args p, A138 args = some p → progOf PROG false 138 args = p := by
  intro args p h
  unfold A138 at h
  split at h
  · cases h; exact T138_eq _
  · cases h
noncomputable def A139 : List Value → Option Pg
  | [(.pointer p0)] => some (T139 p0)
  | _ => none
theorem A139_ok : ∀ args p, A139 args = some p → progOf PROG false 139 args = p := by
  intro args p h
  unfold A139 at h
  split at h
  · cases h; exact T139_eq _
  · cases h
noncomputable def A140 : List Value → Option Pg
  | [(.pointer p0)] => some (T140 p0)
  | _ => none
theorem A140_ok : ∀ args p, A140 args = some p → progOf PROG false 140 args = p := by
  intro args p h
  unfold A140 at h
  split at h
  · cases h; exact T140_eq _
  · cases h
noncomputable def A141 : List Value → Option Pg
  | [(.pointer p0)] => some (T141 p0)
  | _ => none
theorem A141_ok : ∀ args p, A141 args = some p → progOf PROG false 141 args = p := by
  intro args p h
  unfold A141 at h
  split at h
  · cases h; exact T141_eq _
  · cases h
noncomputable def A142 : List Value → Option Pg
  | [(.pointer p0)] => some (T142 p0)
  | _ => none
theorem A142_ok : ∀ args p, A142 args = some p → progOf PROG false 142 args = p := by
  intro args p h
  unfold A142 at h
  split at h
  · cases h; exact T142_eq _
  · cases h
noncomputable def A143 : List Value → Option Pg
  | [(.pointer p0)] => some (T143 p0)
  | _ => none
theorem A143_ok : ∀ args p, A143 args = some p → progOf PROG false 143 args = p := by
  intro args p h
  unfold A143 at h
  split at h
  · cases h; exact T143_eq _
  · cases h
noncomputable def TAB : Tab := (.low 68 (.low 42 (.low 28 (.low 13 (.low 6 (.one 3 A3 (.one 5 A5 (.one 6 A6 .nil))) (.one 7 A7 (.one 8 A8 (.one 13 A13 .nil)))) (.low 16 (.one 14 A14 (.one 15 A15 (.one 16 A16 .nil))) (.one 17 A17 (.one 26 A26 (.one 28 A28 .nil))))) (.low 34 (.low 31 (.one 29 A29 (.one 30 A30 (.one 31 A31 .nil))) (.one 32 A32 (.one 33 A33 (.one 34 A34 .nil)))) (.low 37 (.one 35 A35 (.one 36 A36 (.one 37 A37 .nil))) (.one 38 A38 (.one 39 A39 (.one 42 A42 .nil)))))) (.low 54 (.low 48 (.low 45 (.one 43 A43 (.one 44 A44 (.one 45 A45 .nil))) (.one 46 A46 (.one 47 A47 (.one 48 A48 .nil)))) (.low 51 (.one 49 A49 (.one 50 A50 (.one 51 A51 .nil))) (.one 52 A52 (.one 53 A53 (.one 54 A54 .nil))))) (.low 61 (.low 57 (.one 55 A55 (.one 56 A56 (.one 57 A57 .nil))) (.one 58 A58 (.one 60 A60 (.one 61 A61 .nil)))) (.low 64 (.one 62 A62 (.one 63 A63 (.one 64 A64 .nil))) (.low 66 (.one 65 A65 (.one 66 A66 .nil)) (.one 67 A67 (.one 68 A68 .nil))))))) (.low 110 (.low 85 (.low 74 (.low 71 (.one 69 A69 (.one 70 A70 (.one 71 A71 .nil))) (.one 72 A72 (.one 73 A73 (.one 74 A74 .nil)))) (.low 81 (.one 75 A75 (.one 76 A76 (.one 81 A81 .nil))) (.one 83 A83 (.one 84 A84 (.one 85 A85 .nil))))) (.low 91 (.low 88 (.one 86 A86 (.one 87 A87 (.one 88 A88 .nil))) (.one 89 A89 (.one 90 A90 (.one 91 A91 .nil)))) (.low 107 (.one 92 A92 (.one 93 A93 (.one 107 A107 .nil))) (.one 108 A108 (.one 109 A109 (.one 110 A110 .nil)))))) (.low 129 (.low 116 (.low 113 (.one 111 A111 (.one 112 A112 (.one 113 A113 .nil))) (.one 114 A114 (.one 115 A115 (.one 116 A116 .nil)))) (.low 126 (.one 124 A124 (.one 125 A125 (.one 126 A126 .nil))) (.one 127 A127 (.one 128 A128 (.one 129 A129 .nil))))) (.low 136 (.low 133 (.one 131 A131 (.one 132 A132 (.one 133 A133 .nil))) (.one 134 A134 (.one 135 A135 (.one 136 A136 .nil)))) (.low 139 (.one 137 A137 (.one 138 A138 (.one 139 A139 .nil))) (.low 141 (.one 140 A140 (.one 141 A141 .nil)) (.one 142 A142 (.one 143 A143 .nil))))))))
theorem TAB_ok : TabOK PROG TAB := (.low (.low (.low (.low (.low (.one A3_ok (.one A5_ok (.one A6_ok .nil))) (.one A7_ok (.one A8_ok (.one A13_ok .nil)))) (.low (.one A14_ok (.one A15_ok (.one A16_ok .nil))) (.one A17_ok (.one A26_ok (.one A28_ok .nil))))) (.low (.low (.one A29_ok (.one A30_ok (.one A31_ok .nil))) (.one A32_ok (.one A33_ok (.one A34_ok .nil)))) (.low (.one A35_ok (.one A36_ok (.one A37_ok .nil))) (.one A38_ok (.one A39_ok (.one A42_ok .nil)))))) (.low (.low (.low (.one A43_ok (.one A44_ok (.one A45_ok .nil))) (.one A46_ok (.one A47_ok (.one A48_ok .nil)))) (.low (.one A49_ok (.one A50_ok (.one A51_ok .nil))) (.one A52_ok (.one A53_ok (.one A54_ok .nil))))) (.low (.low (.one A55_ok (.one A56_ok (.one A57_ok .nil))) (.one A58_ok (.one A60_ok (.one A61_ok .nil)))) (.low (.one A62_ok (.one A63_ok (.one A64_ok .nil))) (.low (.one A65_ok (.one A66_ok .nil)) (.one A67_ok (.one A68_ok .nil))))))) (.low (.low (.low (.low (.one A69_ok (.one A70_ok (.one A71_ok .nil))) (.one A72_ok (.one A73_ok (.one A74_ok .nil)))) (.low (.one A75_ok (.one A76_ok (.one A81_ok .nil))) (.one A83_ok (.one A84_ok (.one A85_ok .nil))))) (.low (.low (.one A86_ok (.one A87_ok (.one A88_ok .nil))) (.one A89_ok (.one A90_ok (.one A91_ok .nil)))) (.low (.one A92_ok (.one A93_ok (.one A107_ok .nil))) (.one A108_ok (.one A109_ok (.one A110_ok .nil)))))) (.low (.low (.low (.one A111_ok (.one A112_ok (.one A113_ok .nil))) (.one A114_ok (.one A115_ok (.one A116_ok .nil)))) (.low (.one A124_ok (.one A125_ok (.one A126_ok .nil))) (.one A127_ok (.one A128_ok (.one A129_ok .nil))))) (.low (.low (.one A131_ok (.one A132_ok (.one A133_ok .nil))) (.one A134_ok (.one A135_ok (.one A136_ok .nil)))) (.low (.one A137_ok (.one A138_ok (.one A139_ok .nil))) (.low (.one A140_ok (.one A141_ok .nil)) (.one A142_ok (.one A143_ok .nil))))))))

end Go.Pg
