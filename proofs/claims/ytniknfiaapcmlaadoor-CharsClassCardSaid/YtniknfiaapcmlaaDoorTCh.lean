/- The trees of the functions that the laws reach, written out by program; each is shown to be the function's own; then their table. -/
import Derived.Test.YtniknfiaapcmlaaDoorProg
import Derived.KernelRfl
import Derived.Test.YtniknfiaapcmlaaDoorPg3
namespace Go.Pg
open Go.Proofs
set_option linter.unusedVariables false
noncomputable abbrev PROG : Program := Tryd.prog
noncomputable def T3k0 : Ex → List Value → Pg :=
  fun e19 l20 => sw e19 .normal (asCons l20 fun v21 l22 => asInt .i64 v21 fun i23 => asNil l22 (.ret .normal [(.int .i64 i23)])) (.fail)

noncomputable def T3b0 (a11 : Addr) : List Value → Pg :=
  fun l12 => asCons l12 fun v13 l14 => asInt .i64 v13 fun i15 => asNil l14 (.act (nxt (some a11)) fun v16 => asNx v16 (fun i17 i18 => .join (.ret .normal [(.int .i64 (wi64 (i15 + 1)))]) (T3k0)) (.ret (.exit 0) [(.int .i64 i15)]))

noncomputable def T3k1 (s0 : ByteArray) (s1 : ByteArray) : Ex → List Value → Pg :=
  fun e31 l32 => sw e31 .normal (asCons l32 fun v33 l34 => asBool v33 fun b35 => asNil l34 (bif b35 then (.ret .ret [(.bool true)]) else (grd (Nat.ble (s0.size + s1.size) 9223372036854775807) (.call 10 [(.string (s0 ++ s1))] fun v36 => asInt .i64 v36 fun i37 => .call 10 [(.string s0)] fun v38 => asInt .i64 v38 fun i39 => .call 10 [(.string s1)] fun v40 => asInt .i64 v40 fun i41 => .ret .ret [(.bool (i37 == (wi64 (i39 + i41))))])))) (.fail)

noncomputable def T3k2 (s0 : ByteArray) (s1 : ByteArray) : Ex → List Value → Pg :=
  fun e24 l25 => sw e24 (.exit 0) (asCons l25 fun v26 l27 => asInt .i64 v26 fun i28 => asNil l27 (.call 10 [(.string s0)] fun v29 => asInt .i64 v29 fun i30 => bif (i30 != i28) then (.ret .ret [(.bool false)]) else (.join (bif (decide (((s1.size : Nat) : Int) > 0)) == true then (grd (decide (0 < ((s1.size : Nat) : Int))) (.ret .normal [(.bool (decide ((byteAt s1 0) ≥ 128)))])) else (.ret .normal [(.bool false)])) (T3k1 s0 s1)))) (.fail)

noncomputable def T3k3 (s0 : ByteArray) (s1 : ByteArray) : Ex → List Value → Pg :=
  fun e4 l5 => sw e4 .normal (asCons l5 fun v6 l7 => asBool v6 fun b8 => asNil l7 (bif b8 then (.ret .ret [(.bool true)]) else (.act (rng s0) fun v9 => asPtr v9 fun p10 => asSome p10 fun a11 => .loop [(.int .i64 0)] (T3b0 a11) (T3k2 s0 s1)))) (.fail)

/-- hindsight/hindsightlaw1.CharsRunes -/
noncomputable def T3 (s0 : ByteArray) (s1 : ByteArray) : Pg :=
  .call 9 [] fun v2 => asBool v2 fun b3 => bif (!b3) then (.ret .ret [(.bool false)]) else (.join (bif (decide (((s0.size : Nat) : Int) > 200)) == false then (.ret .normal [(.bool (decide (((s1.size : Nat) : Int) > 200)))]) else (.ret .normal [(.bool true)])) (T3k3 s0 s1))
theorem T3_eq (s0 : ByteArray) (s1 : ByteArray) : progOf PROG false 3 [(.string s0), (.string s1)] = T3 s0 s1 := by kernel_rfl


noncomputable def T4k0 (s0 : ByteArray) (i1 : Int) : Ex → List Value → Pg :=
  fun e4 l5 => sw e4 .normal (asCons l5 fun v6 l7 => asBool v6 fun b8 => asNil l7 (bif b8 then (.ret .ret [(.bool true)]) else (.call 11 [(.string s0), (.int .i64 i1)] fun v9 => asTuple v9 fun l10 => asCons l10 fun v11 l12 => asInt .i64 v11 fun i13 => asCons l12 fun v14 l15 => asInt .i64 v14 fun i16 => asNil l15 (.call 11 [(.string s0), (.int .i64 (wi64 (i1 + 1)))] fun v17 => asTuple v17 fun l18 => asCons l18 fun v19 l20 => asInt .i64 v19 fun i21 => asCons l20 fun v22 l23 => asInt .i64 v22 fun i24 => asNil l23 (grd ((decide (0 ≤ i1)) && (decide (i1 < ((s0.size : Nat) : Int)))) (bif ((byteAt s0 (Int.toNat i1)) == 10) then (.ret .ret [(.bool ((i21 == (wi64 (i13 + 1))) && (i24 == 1)))]) else (.ret .ret [(.bool ((i21 == i13) && ((i24 == i16) || (i24 == (wi64 (i16 + 1))))))]))))))) (.fail)

/-- hindsight/hindsightlaw1.CharsMoves -/
noncomputable def T4 (s0 : ByteArray) (i1 : Int) : Pg :=
  .call 9 [] fun v2 => asBool v2 fun b3 => bif (!b3) then (.ret .ret [(.bool false)]) else (.join (bif ((decide (((s0.size : Nat) : Int) > 300)) || (decide (i1 < 0))) == false then (.ret .normal [(.bool (decide (i1 ≥ ((s0.size : Nat) : Int))))]) else (.ret .normal [(.bool true)])) (T4k0 s0 i1))
theorem T4_eq (s0 : ByteArray) (i1 : Int) : progOf PROG false 4 [(.string s0), (.int .i64 i1)] = T4 s0 i1 := by kernel_rfl


noncomputable def T9k0 : Ex → List Value → Pg :=
  fun e14 l15 => sw e14 .normal (asCons l15 fun v16 l17 => asBool v16 fun b18 => asNil l17 (.ret .ret [(.bool b18)])) (.fail)

/-- hindsight/hindsightlaw1.awake -/
noncomputable def T9 : Pg :=
  .call 11 [(.string (bs [97, 10, 98, 99])), (.int .i64 3)] fun v0 => asTuple v0 fun l1 => asCons l1 fun v2 l3 => asInt .i64 v2 fun i4 => asCons l3 fun v5 l6 => asInt .i64 v5 fun i7 => asNil l6 (.join (bif ((i4 == 2) && (i7 == 2)) == true then (.call 12 [(.int .i32 97)] fun v8 => asInt .i64 v8 fun i9 => bif (i9 == 1) == true then (.call 12 [(.int .i32 40)] fun v10 => asInt .i64 v10 fun i11 => bif (i11 == 4) == true then (.call 10 [(.string (bs [195, 169, 120]))] fun v12 => asInt .i64 v12 fun i13 => .ret .normal [(.bool (i13 == 2))]) else (.ret .normal [(.bool false)])) else (.ret .normal [(.bool false)])) else (.ret .normal [(.bool false)])) (T9k0))
theorem T9_eq : progOf PROG false 9 [] = T9 := by kernel_rfl


noncomputable def T10k0 : Ex → List Value → Pg :=
  fun e11 l12 => sw e11 .normal (asCons l12 fun v13 l14 => asInt .i64 v13 fun i15 => asNil l14 (.ret .normal [(.int .i64 i15)])) (.fail)

noncomputable def T10b0 (a3 : Addr) : List Value → Pg :=
  fun l4 => asCons l4 fun v5 l6 => asInt .i64 v5 fun i7 => asNil l6 (.act (nxt (some a3)) fun v8 => asNx v8 (fun i9 i10 => .join (.ret .normal [(.int .i64 (wi64 (i7 + 1)))]) (T10k0)) (.ret (.exit 0) [(.int .i64 i7)]))

noncomputable def T10k1 : Ex → List Value → Pg :=
  fun e16 l17 => sw e16 (.exit 0) (asCons l17 fun v18 l19 => asInt .i64 v18 fun i20 => asNil l19 (.ret .ret [(.int .i64 i20)])) (.fail)

/-- hindsight/chars.Runes -/
noncomputable def T10 (s0 : ByteArray) : Pg :=
  .act (rng s0) fun v1 => asPtr v1 fun p2 => asSome p2 fun a3 => .loop [(.int .i64 0)] (T10b0 a3) (T10k1)
theorem T10_eq (s0 : ByteArray) : progOf PROG false 10 [(.string s0)] = T10 s0 := by kernel_rfl


noncomputable def T11k0 : Ex → List Value → Pg :=
  fun e15 l16 => sw e15 .normal (asCons l16 fun v17 l18 => asInt .i64 v17 fun i19 => asCons l18 fun v20 l21 => asInt .i64 v20 fun i22 => asNil l21 (.ret .normal [(.int .i64 i22), (.int .i64 i19)])) (.fail)

noncomputable def T11k1 : Ex → List Value → Pg :=
  fun e23 l24 => sw e23 (.exit 0) (asCons l24 fun v25 l26 => asInt .i64 v25 fun i27 => asCons l26 fun v28 l29 => asInt .i64 v28 fun i30 => asNil l29 (.ret (.exit 0) [(.int .i64 i27), (.int .i64 i30)])) (sw e23 .normal (asCons l24 fun v31 l32 => asInt .i64 v31 fun i33 => asCons l32 fun v34 l35 => asInt .i64 v34 fun i36 => asNil l35 (.ret .normal [(.int .i64 i33), (.int .i64 i36)])) (.fail))

noncomputable def T11b0 (a4 : Addr) (i1 : Int) (s0 : ByteArray) : List Value → Pg :=
  fun l5 => asCons l5 fun v6 l7 => asInt .i64 v6 fun i8 => asCons l7 fun v9 l10 => asInt .i64 v9 fun i11 => asNil l10 (.act (nxt (some a4)) fun v12 => asNx v12 (fun i13 i14 => .join (bif (decide (i13 ≥ (minV (maxV i1 0) ((s0.size : Nat) : Int)))) then (.ret (.exit 0) [(.int .i64 i8), (.int .i64 i11)]) else (.join (bif (i14 == 10) then (.ret .normal [(.int .i64 1), (.int .i64 (wi64 (i8 + 1)))]) else (.ret .normal [(.int .i64 (wi64 (i11 + 1))), (.int .i64 i8)])) (T11k0))) (T11k1)) (.ret (.exit 0) [(.int .i64 i8), (.int .i64 i11)]))

noncomputable def T11k2 : Ex → List Value → Pg :=
  fun e37 l38 => sw e37 (.exit 0) (asCons l38 fun v39 l40 => asInt .i64 v39 fun i41 => asCons l40 fun v42 l43 => asInt .i64 v42 fun i44 => asNil l43 (.ret .ret [(.tuple #[(.int .i64 i41), (.int .i64 i44)])])) (.fail)

/-- hindsight/chars.Pos -/
noncomputable def T11 (s0 : ByteArray) (i1 : Int) : Pg :=
  .act (rng s0) fun v2 => asPtr v2 fun p3 => asSome p3 fun a4 => .loop [(.int .i64 1), (.int .i64 1)] (T11b0 a4 i1 s0) (T11k2)
theorem T11_eq (s0 : ByteArray) (i1 : Int) : progOf PROG false 11 [(.string s0), (.int .i64 i1)] = T11 s0 i1 := by kernel_rfl


noncomputable def T12k0 (i0 : Int) : Ex → List Value → Pg :=
  fun e3 l4 => sw e3 .normal (asCons l4 fun v5 l6 => asBool v5 fun b7 => asNil l6 (bif b7 then (.ret .ret [(.int .i64 1)]) else (bif ((decide (i0 ≥ 48)) && (decide (i0 ≤ 57))) then (.ret .ret [(.int .i64 2)]) else (.ret .normal [(.int .i64 0)])))) (.fail)

noncomputable def T12k1 : Ex → List Value → Pg :=
  fun e16 l17 => sw e16 .normal (asCons l17 fun v18 l19 => asBool v18 fun b20 => asNil l19 (.ret .normal [(.bool b20)])) (.fail)

noncomputable def T12k2 : Ex → List Value → Pg :=
  fun e21 l22 => sw e21 .normal (asCons l22 fun v23 l24 => asBool v23 fun b25 => asNil l24 (.ret .normal [(.bool b25)])) (.fail)

noncomputable def T12k3 : Ex → List Value → Pg :=
  fun e31 l32 => sw e31 .normal (asCons l32 fun v33 l34 => asBool v33 fun b35 => asNil l34 (.ret .normal [(.bool b35)])) (.fail)

noncomputable def T12k4 : Ex → List Value → Pg :=
  fun e36 l37 => sw e36 .normal (asCons l37 fun v38 l39 => asBool v38 fun b40 => asNil l39 (.ret .normal [(.bool b40)])) (.fail)

noncomputable def T12k5 : Ex → List Value → Pg :=
  fun e41 l42 => sw e41 .normal (asCons l42 fun v43 l44 => asBool v43 fun b45 => asNil l44 (.ret .normal [(.bool b45)])) (.fail)

noncomputable def T12k6 : Ex → List Value → Pg :=
  fun e46 l47 => sw e46 .normal (asCons l47 fun v48 l49 => asBool v48 fun b50 => asNil l49 (.ret .normal [(.bool b50)])) (.fail)

noncomputable def T12k7 : Ex → List Value → Pg :=
  fun e51 l52 => sw e51 .normal (asCons l52 fun v53 l54 => asBool v53 fun b55 => asNil l54 (.ret .normal [(.bool b55)])) (.fail)

noncomputable def T12k8 : Ex → List Value → Pg :=
  fun e56 l57 => sw e56 .normal (asCons l57 fun v58 l59 => asBool v58 fun b60 => asNil l59 (.ret .normal [(.bool b60)])) (.fail)

noncomputable def T12k9 : Ex → List Value → Pg :=
  fun e61 l62 => sw e61 .normal (asCons l62 fun v63 l64 => asBool v63 fun b65 => asNil l64 (.ret .normal [(.bool b65)])) (.fail)

noncomputable def T12k10 : Ex → List Value → Pg :=
  fun e66 l67 => sw e66 .normal (asCons l67 fun v68 l69 => asBool v68 fun b70 => asNil l69 (.ret .normal [(.bool b70)])) (.fail)

noncomputable def T12k11 : Ex → List Value → Pg :=
  fun e71 l72 => sw e71 .normal (asCons l72 fun v73 l74 => asBool v73 fun b75 => asNil l74 (.ret .normal [(.bool b75)])) (.fail)

noncomputable def T12k12 : Ex → List Value → Pg :=
  fun e76 l77 => sw e76 .normal (asCons l77 fun v78 l79 => asBool v78 fun b80 => asNil l79 (.ret .normal [(.bool b80)])) (.fail)

noncomputable def T12k13 : Ex → List Value → Pg :=
  fun e81 l82 => sw e81 .normal (asCons l82 fun v83 l84 => asBool v83 fun b85 => asNil l84 (.ret .normal [(.bool b85)])) (.fail)

noncomputable def T12k14 (i15 : Int) : Ex → List Value → Pg :=
  fun e86 l87 => sw e86 .normal (asCons l87 fun v88 l89 => asBool v88 fun b90 => asNil l89 (bif b90 then (.ret .ret [(.int .i64 4)]) else (.ret .normal [(.int .i64 i15)]))) (.fail)

noncomputable def T12k15 (i0 : Int) (i15 : Int) : Ex → List Value → Pg :=
  fun e26 l27 => sw e26 .normal (asCons l27 fun v28 l29 => asBool v28 fun b30 => asNil l29 (bif b30 then (.ret .ret [(.int .i64 3)]) else (.join (bif (i0 == 40) then (.ret .normal [(.bool (i0 == 40))]) else (.join (bif (i0 == 41) then (.ret .normal [(.bool (i0 == 41))]) else (.join (bif (i0 == 44) then (.ret .normal [(.bool (i0 == 44))]) else (.join (bif (i0 == 59) then (.ret .normal [(.bool (i0 == 59))]) else (.join (bif (i0 == 61) then (.ret .normal [(.bool (i0 == 61))]) else (.join (bif (i0 == 60) then (.ret .normal [(.bool (i0 == 60))]) else (.join (bif (i0 == 62) then (.ret .normal [(.bool (i0 == 62))]) else (.join (bif (i0 == 43) then (.ret .normal [(.bool (i0 == 43))]) else (.join (bif (i0 == 45) then (.ret .normal [(.bool (i0 == 45))]) else (.join (bif (i0 == 42) then (.ret .normal [(.bool (i0 == 42))]) else (.join (bif (i0 == 124) then (.ret .normal [(.bool (i0 == 124))]) else (.join (bif (i0 == 33) then (.ret .normal [(.bool (i0 == 33))]) else (.ret .normal [(.bool (i0 == 58))])) (T12k3))) (T12k4))) (T12k5))) (T12k6))) (T12k7))) (T12k8))) (T12k9))) (T12k10))) (T12k11))) (T12k12))) (T12k13))) (T12k14 i15)))) (.fail)

noncomputable def T12k16 : Ex → List Value → Pg :=
  fun e91 l92 => sw e91 .ret (asCons l92 fun v93 l94 => asInt .i64 v93 fun i95 => asNil l94 (.ret .ret [(.int .i64 i95)])) (sw e91 .normal (asCons l92 fun v96 l97 => asInt .i64 v96 fun i98 => asNil l97 (.ret .ret [(.int .i64 0)])) (.fail))

noncomputable def T12k17 (i0 : Int) : Ex → List Value → Pg :=
  fun e8 l9 => sw e8 .ret (asCons l9 fun v10 l11 => asInt .i64 v10 fun i12 => asNil l11 (.ret .ret [(.int .i64 i12)])) (sw e8 .normal (asCons l9 fun v13 l14 => asInt .i64 v13 fun i15 => asNil l14 (.join (.join (bif (i0 == 32) then (.ret .normal [(.bool (i0 == 32))]) else (.join (bif (i0 == 9) then (.ret .normal [(.bool (i0 == 9))]) else (.join (bif (i0 == 10) then (.ret .normal [(.bool (i0 == 10))]) else (.ret .normal [(.bool (i0 == 13))])) (T12k1))) (T12k2))) (T12k15 i0 i15)) (T12k16))) (.fail))

/-- hindsight/chars.Class -/
noncomputable def T12 (i0 : Int) : Pg :=
  .join (.join (bif ((i0 == 95) || (i0 == 39)) == false then (.call 20 [(.int .i32 i0)] fun v1 => asBool v1 fun b2 => .ret .normal [(.bool b2)]) else (.ret .normal [(.bool true)])) (T12k0 i0)) (T12k17 i0)
theorem T12_eq (i0 : Int) : progOf PROG false 12 [(.int .i32 i0)] = T12 i0 := by kernel_rfl

noncomputable def A3 : List Value → Option Pg
  | [(.string s0), (.string s1)] => some (T3 s0 s1)
  | _ => none
theorem A3_ok : ∀ args p, A3 args = some p → progOf PROG false 3 args = p := by
  intro args p h
  unfold A3 at h
  split at h
  · cases h; exact T3_eq _ _
  · cases h
noncomputable def A4 : List Value → Option Pg
  | [(.string s0), (.int .i64 i1)] => some (T4 s0 i1)
  | _ => none
theorem A4_ok : ∀ args p, A4 args = some p → progOf PROG false 4 args = p := by
  intro args p h
  unfold A4 at h
  split at h
  · cases h; exact T4_eq _ _
  · cases h
noncomputable def A9 : List Value → Option Pg
  | [] => some (T9)
  | _ => none
theorem A9_ok : ∀ args p, A9 args = some p → progOf PROG false 9 args = p := by
  intro args p h
  unfold A9 at h
  split at h
  · cases h; exact T9_eq 
  · cases h
noncomputable def A10 : List Value → Option Pg
  | [(.string s0)] => some (T10 s0)
  | _ => none
theorem A10_ok : ∀ args p, A10 args = some p → progOf PROG false 10 args = p := by
  intro args p h
  unfold A10 at h
  split at h
  · cases h; exact T10_eq _
  · cases h
noncomputable def A11 : List Value → Option Pg
  | [(.string s0), (.int .i64 i1)] => some (T11 s0 i1)
  | _ => none
theorem A11_ok : ∀ args p, A11 args = some p → progOf PROG false 11 args = p := by
  intro args p h
  unfold A11 at h
  split at h
  · cases h; exact T11_eq _ _
  · cases h
noncomputable def A12 : List Value → Option Pg
  | [(.int .i32 i0)] => some (T12 i0)
  | _ => none
theorem A12_ok : ∀ args p, A12 args = some p → progOf PROG false 12 args = p := by
  intro args p h
  unfold A12 at h
  split at h
  · cases h; exact T12_eq _
  · cases h
noncomputable def TAB : Tab := (.low 9 (.one 3 A3 (.one 4 A4 (.one 9 A9 .nil))) (.one 10 A10 (.one 11 A11 (.one 12 A12 .nil))))
theorem TAB_ok : TabOK PROG TAB := (.low (.one A3_ok (.one A4_ok (.one A9_ok .nil))) (.one A10_ok (.one A11_ok (.one A12_ok .nil))))

end Go.Pg
