/- The trees of the functions that the law reaches, written out by program; each is shown to be the function's own; then their table. -/
import Derived.Test.YthpehkpeocoliaaGreatDoorProg
import Derived.Test.YthpehkpeocoliaaGreatDoorTTnA
import Derived.Test.YthpehkpeocoliaaGreatDoorTTnB
import Derived.Test.YthpehkpeocoliaaGreatDoorTTnC
import Derived.KernelRfl
import Derived.Test.YthpehkpeocoliaaGreatDoorPg3
namespace Go.Pg
open Go.Proofs
set_option linter.unusedVariables false
set_option maxRecDepth 100000
noncomputable def A3 (args : List Value) : Option Pg := some (progOf PROG false 3 args)
theorem A3_ok : ∀ args p, A3 args = some p → progOf PROG false 3 args = p := fun args p h => Option.some.inj h
noncomputable def A4 : List Value → Option Pg
  | [] => some (T4)
  | _ => none
theorem A4_ok : ∀ args p, A4 args = some p → progOf PROG false 4 args = p := by
  intro args p h
  unfold A4 at h
  split at h
  · cases h; exact T4_eq 
  · cases h
noncomputable def A5 : List Value → Option Pg
  | [(.string s0)] => some (T5 s0)
  | _ => none
theorem A5_ok : ∀ args p, A5 args = some p → progOf PROG false 5 args = p := by
  intro args p h
  unfold A5 at h
  split at h
  · cases h; exact T5_eq _
  · cases h
noncomputable def A6 : List Value → Option Pg
  | [(.string s0)] => some (T6 s0)
  | _ => none
theorem A6_ok : ∀ args p, A6 args = some p → progOf PROG false 6 args = p := by
  intro args p h
  unfold A6 at h
  split at h
  · cases h; exact T6_eq _
  · cases h
noncomputable def A7 : List Value → Option Pg
  | [(.agg c0)] => (match c0.toList with
    | [(.int .i64 i0), (.string s1), (.int .i64 i2), (.slice p3 n4 n5)] => some (T7 i0 s1 i2 p3 n4 n5)
    | _ => none)
  | _ => none
theorem A7_ok : ∀ args p, A7 args = some p → progOf PROG false 7 args = p := by
  intro args p h
  unfold A7 at h
  split at h
  · split at h
    · rename_i e0
      have f0 := agg_of e0
      subst f0
      cases h
      exact T7_eq _ _ _ _ _ _
    · cases h
  · cases h
noncomputable def A8 : List Value → Option Pg
  | [(.string s0)] => some (T8 s0)
  | _ => none
theorem A8_ok : ∀ args p, A8 args = some p → progOf PROG false 8 args = p := by
  intro args p h
  unfold A8 at h
  split at h
  · cases h; exact T8_eq _
  · cases h
noncomputable def A9 : List Value → Option Pg
  | [(.agg c0)] => (match c0.toList with
    | [(.slice p0 n1 n2), (.slice p3 n4 n5)] => some (T9 p0 n1 n2 p3 n4 n5)
    | _ => none)
  | _ => none
theorem A9_ok : ∀ args p, A9 args = some p → progOf PROG false 9 args = p := by
  intro args p h
  unfold A9 at h
  split at h
  · split at h
    · rename_i e0
      have f0 := agg_of e0
      subst f0
      cases h
      exact T9_eq _ _ _ _ _ _
    · cases h
  · cases h
noncomputable def A10 : List Value → Option Pg
  | [(.agg c0)] => (match c0.toList with
    | [(.slice p0 n1 n2), (.slice p3 n4 n5)] => some (T10 p0 n1 n2 p3 n4 n5)
    | _ => none)
  | _ => none
theorem A10_ok : ∀ args p, A10 args = some p → progOf PROG false 10 args = p := by
  intro args p h
  unfold A10 at h
  split at h
  · split at h
    · rename_i e0
      have f0 := agg_of e0
      subst f0
      cases h
      exact T10_eq _ _ _ _ _ _
    · cases h
  · cases h
noncomputable def A11 : List Value → Option Pg
  | [(.agg c0)] => (match c0.toList with
    | [(.int .i64 i0), (.string s1), (.int .i64 i2), (.slice p3 n4 n5)] => some (T11 i0 s1 i2 p3 n4 n5)
    | _ => none)
  | _ => none
theorem A11_ok : ∀ args p, A11 args = some p → progOf PROG false 11 args = p := by
  intro args p h
  unfold A11 at h
  split at h
  · split at h
    · rename_i e0
      have f0 := agg_of e0
      subst f0
      cases h
      exact T11_eq _ _ _ _ _ _
    · cases h
  · cases h
noncomputable def A12 : List Value → Option Pg
  | [(.int .i64 i0)] => some (T12 i0)
  | _ => none
theorem A12_ok : ∀ args p, A12 args = some p → progOf PROG false 12 args = p := by
  intro args p h
  unfold A12 at h
  split at h
  · cases h; exact T12_eq _
  · cases h
noncomputable def A13 : List Value → Option Pg
  | [(.agg c0), (.map m6)] => (match c0.toList with
    | [(.int .i64 i0), (.string s1), (.int .i64 i2), (.slice p3 n4 n5)] => some (T13 i0 s1 i2 p3 n4 n5 m6)
    | _ => none)
  | _ => none
theorem A13_ok : ∀ args p, A13 args = some p → progOf PROG false 13 args = p := by
  intro args p h
  unfold A13 at h
  split at h
  · split at h
    · rename_i e0
      have f0 := agg_of e0
      subst f0
      cases h
      exact T13_eq _ _ _ _ _ _ _
    · cases h
  · cases h
noncomputable def A14 : List Value → Option Pg
  | [(.string s0)] => some (T14 s0)
  | _ => none
theorem A14_ok : ∀ args p, A14 args = some p → progOf PROG false 14 args = p := by
  intro args p h
  unfold A14 at h
  split at h
  · cases h; exact T14_eq _
  · cases h
noncomputable def A15 : List Value → Option Pg
  | [(.pointer p0), (.int .i64 i1), (.string s2)] => some (T15 p0 i1 s2)
  | _ => none
theorem A15_ok : ∀ args p, A15 args = some p → progOf PROG false 15 args = p := by
  intro args p h
  unfold A15 at h
  split at h
  · cases h; exact T15_eq _ _ _
  · cases h
noncomputable def A16 : List Value → Option Pg
  | [(.pointer p0)] => some (T16 p0)
  | _ => none
theorem A16_ok : ∀ args p, A16 args = some p → progOf PROG false 16 args = p := by
  intro args p h
  unfold A16 at h
  split at h
  · cases h; exact T16_eq _
  · cases h
noncomputable def A17 : List Value → Option Pg
  | [(.pointer p0)] => some (T17 p0)
  | _ => none
theorem A17_ok : ∀ args p, A17 args = some p → progOf PROG false 17 args = p := by
  intro args p h
  unfold A17 at h
  split at h
  · cases h; exact T17_eq _
  · cases h
noncomputable def A18 : List Value → Option Pg
  | [(.pointer p0)] => some (T18 p0)
  | _ => none
theorem A18_ok : ∀ args p, A18 args = some p → progOf PROG false 18 args = p := by
  intro args p h
  unfold A18 at h
  split at h
  · cases h; exact T18_eq _
  · cases h
noncomputable def A19 : List Value → Option Pg
  | [(.pointer p0), (.pointer p1), (.int .i64 i2), (.pointer p3)] => some (T19 p0 p1 i2 p3)
  | _ => none
theorem A19_ok : ∀ args p, A19 args = some p → progOf PROG false 19 args = p := by
  intro args p h
  unfold A19 at h
  split at h
  · cases h; exact T19_eq _ _ _ _
  · cases h
noncomputable def A20 : List Value → Option Pg
  | [(.agg c0)] => (match c0.toList with
    | [(.slice p0 n1 n2), (.slice p3 n4 n5)] => some (T20 p0 n1 n2 p3 n4 n5)
    | _ => none)
  | _ => none
theorem A20_ok : ∀ args p, A20 args = some p → progOf PROG false 20 args = p := by
  intro args p h
  unfold A20 at h
  split at h
  · split at h
    · rename_i e0
      have f0 := agg_of e0
      subst f0
      cases h
      exact T20_eq _ _ _ _ _ _
    · cases h
  · cases h
noncomputable def A21 : List Value → Option Pg
  | [] => some (T21)
  | _ => none
theorem A21_ok : ∀ args p, A21 args = some p → progOf PROG false 21 args = p := by
  intro args p h
  unfold A21 at h
  split at h
  · cases h; exact T21_eq 
  · cases h
noncomputable def A22 : List Value → Option Pg
  | [(.pointer p0), (.int .i64 i1), (.pointer p2)] => some (T22 p0 i1 p2)
  | _ => none
theorem A22_ok : ∀ args p, A22 args = some p → progOf PROG false 22 args = p := by
  intro args p h
  unfold A22 at h
  split at h
  · cases h; exact T22_eq _ _ _
  · cases h
noncomputable def A23 : List Value → Option Pg
  | [(.pointer p0), (.agg c0)] => (match c0.toList with
    | [(.int .i64 i1), (.string s2), (.int .i64 i3), (.slice p4 n5 n6)] => some (T23 p0 i1 s2 i3 p4 n5 n6)
    | _ => none)
  | _ => none
theorem A23_ok : ∀ args p, A23 args = some p → progOf PROG false 23 args = p := by
  intro args p h
  unfold A23 at h
  split at h
  · split at h
    · rename_i e0
      have f0 := agg_of e0
      subst f0
      cases h
      exact T23_eq _ _ _ _ _ _ _
    · cases h
  · cases h
noncomputable def A24 : List Value → Option Pg
  | [(.agg c0), (.int .i64 i6)] => (match c0.toList with
    | [(.slice p0 n1 n2), (.slice p3 n4 n5)] => some (T24 p0 n1 n2 p3 n4 n5 i6)
    | _ => none)
  | _ => none
theorem A24_ok : ∀ args p, A24 args = some p → progOf PROG false 24 args = p := by
  intro args p h
  unfold A24 at h
  split at h
  · split at h
    · rename_i e0
      have f0 := agg_of e0
      subst f0
      cases h
      exact T24_eq _ _ _ _ _ _ _
    · cases h
  · cases h
noncomputable def A25 : List Value → Option Pg
  | [(.agg c0), (.slice p6 n7 n8)] => (match c0.toList with
    | [(.int .i64 i0), (.string s1), (.int .i64 i2), (.slice p3 n4 n5)] => some (T25 i0 s1 i2 p3 n4 n5 p6 n7 n8)
    | _ => none)
  | _ => none
theorem A25_ok : ∀ args p, A25 args = some p → progOf PROG false 25 args = p := by
  intro args p h
  unfold A25 at h
  split at h
  · split at h
    · rename_i e0
      have f0 := agg_of e0
      subst f0
      cases h
      exact T25_eq _ _ _ _ _ _ _ _ _
    · cases h
  · cases h
noncomputable def A27 : List Value → Option Pg
  | [(.string s0)] => some (T27 s0)
  | _ => none
theorem A27_ok : ∀ args p, A27 args = some p → progOf PROG false 27 args = p := by
  intro args p h
  unfold A27 at h
  split at h
  · cases h; exact T27_eq _
  · cases h
noncomputable def A28 : List Value → Option Pg
  | [(.string s0)] => some (T28 s0)
  | _ => none
theorem A28_ok : ∀ args p, A28 args = some p → progOf PROG false 28 args = p := by
  intro args p h
  unfold A28 at h
  split at h
  · cases h; exact T28_eq _
  · cases h
noncomputable def A29 : List Value → Option Pg
  | [(.pointer p0)] => some (T29 p0)
  | _ => none
theorem A29_ok : ∀ args p, A29 args = some p → progOf PROG false 29 args = p := by
  intro args p h
  unfold A29 at h
  split at h
  · cases h; exact T29_eq _
  · cases h
noncomputable def A30 : List Value → Option Pg
  | [(.pointer p0)] => some (T30 p0)
  | _ => none
theorem A30_ok : ∀ args p, A30 args = some p → progOf PROG false 30 args = p := by
  intro args p h
  unfold A30 at h
  split at h
  · cases h; exact T30_eq _
  · cases h
noncomputable def A31 : List Value → Option Pg
  | [(.pointer p0), (.string s1)] => some (T31 p0 s1)
  | _ => none
theorem A31_ok : ∀ args p, A31 args = some p → progOf PROG false 31 args = p := by
  intro args p h
  unfold A31 at h
  split at h
  · cases h; exact T31_eq _ _
  · cases h
noncomputable def A32 : List Value → Option Pg
  | [(.pointer p0)] => some (T32 p0)
  | _ => none
theorem A32_ok : ∀ args p, A32 args = some p → progOf PROG false 32 args = p := by
  intro args p h
  unfold A32 at h
  split at h
  · cases h; exact T32_eq _
  · cases h
noncomputable def A33 : List Value → Option Pg
  | [(.pointer p0)] => some (T33 p0)
  | _ => none
theorem A33_ok : ∀ args p, A33 args = some p → progOf PROG false 33 args = p := by
  intro args p h
  unfold A33 at h
  split at h
  · cases h; exact T33_eq _
  · cases h
noncomputable def A34 : List Value → Option Pg
  | [(.int .i64 i0), (.int .i64 i1), (.slice p2 n3 n4)] => some (T34 i0 i1 p2 n3 n4)
  | _ => none
theorem A34_ok : ∀ args p, A34 args = some p → progOf PROG false 34 args = p := by
  intro args p h
  unfold A34 at h
  split at h
  · cases h; exact T34_eq _ _ _ _ _
  · cases h
noncomputable def A35 : List Value → Option Pg
  | [(.slice p0 n1 n2)] => some (T35 p0 n1 n2)
  | _ => none
theorem A35_ok : ∀ args p, A35 args = some p → progOf PROG false 35 args = p := by
  intro args p h
  unfold A35 at h
  split at h
  · cases h; exact T35_eq _ _ _
  · cases h
noncomputable def A36 : List Value → Option Pg
  | [(.pointer p0), (.bool b1), (.int .i64 i2)] => some (T36 p0 b1 i2)
  | _ => none
theorem A36_ok : ∀ args p, A36 args = some p → progOf PROG false 36 args = p := by
  intro args p h
  unfold A36 at h
  split at h
  · cases h; exact T36_eq _ _ _
  · cases h
noncomputable def A37 : List Value → Option Pg
  | [(.int .i64 i0)] => some (T37 i0)
  | _ => none
theorem A37_ok : ∀ args p, A37 args = some p → progOf PROG false 37 args = p := by
  intro args p h
  unfold A37 at h
  split at h
  · cases h; exact T37_eq _
  · cases h
noncomputable def A38 : List Value → Option Pg
  | [(.slice p0 n1 n2)] => some (T38 p0 n1 n2)
  | _ => none
theorem A38_ok : ∀ args p, A38 args = some p → progOf PROG false 38 args = p := by
  intro args p h
  unfold A38 at h
  split at h
  · cases h; exact T38_eq _ _ _
  · cases h
noncomputable def A39 : List Value → Option Pg
  | [(.agg c0), (.int .i64 i6)] => (match c0.toList with
    | [(.slice p0 n1 n2), (.slice p3 n4 n5)] => some (T39 p0 n1 n2 p3 n4 n5 i6)
    | _ => none)
  | _ => none
theorem A39_ok : ∀ args p, A39 args = some p → progOf PROG false 39 args = p := by
  intro args p h
  unfold A39 at h
  split at h
  · split at h
    · rename_i e0
      have f0 := agg_of e0
      subst f0
      cases h
      exact T39_eq _ _ _ _ _ _ _
    · cases h
  · cases h
noncomputable def A40 : List Value → Option Pg
  | [(.int .i64 i0), (.slice p1 n2 n3)] => some (T40 i0 p1 n2 n3)
  | _ => none
theorem A40_ok : ∀ args p, A40 args = some p → progOf PROG false 40 args = p := by
  intro args p h
  unfold A40 at h
  split at h
  · cases h; exact T40_eq _ _ _ _
  · cases h
noncomputable def A41 : List Value → Option Pg
  | [(.pointer p0), (.int .i64 i1), (.agg c0), (.pointer p11)] => (match c0.toList with
    | [(.int .i64 i2), (.int .i64 i3), (.string s4), (.string s5), (.slice p6 n7 n8), (.int .i64 i9), (.int .i64 i10)] => some (T41 p0 i1 i2 i3 s4 s5 p6 n7 n8 i9 i10 p11)
    | _ => none)
  | _ => none
theorem A41_ok : ∀ args p, A41 args = some p → progOf PROG false 41 args = p := by
  intro args p h
  unfold A41 at h
  split at h
  · split at h
    · rename_i e0
      have f0 := agg_of e0
      subst f0
      cases h
      exact T41_eq _ _ _ _ _ _ _ _ _ _ _ _
    · cases h
  · cases h
noncomputable def A42 : List Value → Option Pg
  | [(.pointer p0), (.int .i64 i1), (.agg c0), (.pointer p11)] => (match c0.toList with
    | [(.int .i64 i2), (.int .i64 i3), (.string s4), (.string s5), (.slice p6 n7 n8), (.int .i64 i9), (.int .i64 i10)] => some (T42 p0 i1 i2 i3 s4 s5 p6 n7 n8 i9 i10 p11)
    | _ => none)
  | _ => none
theorem A42_ok : ∀ args p, A42 args = some p → progOf PROG false 42 args = p := by
  intro args p h
  unfold A42 at h
  split at h
  · split at h
    · rename_i e0
      have f0 := agg_of e0
      subst f0
      cases h
      exact T42_eq _ _ _ _ _ _ _ _ _ _ _ _
    · cases h
  · cases h
noncomputable def A43 : List Value → Option Pg
  | [(.pointer p0), (.agg c0), (.pointer p10)] => (match c0.toList with
    | [(.int .i64 i1), (.int .i64 i2), (.string s3), (.string s4), (.slice p5 n6 n7), (.int .i64 i8), (.int .i64 i9)] => some (T43 p0 i1 i2 s3 s4 p5 n6 n7 i8 i9 p10)
    | _ => none)
  | _ => none
theorem A43_ok : ∀ args p, A43 args = some p → progOf PROG false 43 args = p := by
  intro args p h
  unfold A43 at h
  split at h
  · split at h
    · rename_i e0
      have f0 := agg_of e0
      subst f0
      cases h
      exact T43_eq _ _ _ _ _ _ _ _ _ _ _
    · cases h
  · cases h
noncomputable def A44 : List Value → Option Pg
  | [(.agg c0)] => (match c0.toList with
    | [(.int .i64 i0), (.string s1), (.int .i64 i2), (.slice p3 n4 n5)] => some (T44 i0 s1 i2 p3 n4 n5)
    | _ => none)
  | _ => none
theorem A44_ok : ∀ args p, A44 args = some p → progOf PROG false 44 args = p := by
  intro args p h
  unfold A44 at h
  split at h
  · split at h
    · rename_i e0
      have f0 := agg_of e0
      subst f0
      cases h
      exact T44_eq _ _ _ _ _ _
    · cases h
  · cases h
noncomputable def A45 : List Value → Option Pg
  | [(.pointer p0), (.agg c0)] => (match c0.toList with
    | [(.int .i64 i1), (.string s2), (.int .i64 i3), (.slice p4 n5 n6)] => some (T45 p0 i1 s2 i3 p4 n5 n6)
    | _ => none)
  | _ => none
theorem A45_ok : ∀ args p, A45 args = some p → progOf PROG false 45 args = p := by
  intro args p h
  unfold A45 at h
  split at h
  · split at h
    · rename_i e0
      have f0 := agg_of e0
      subst f0
      cases h
      exact T45_eq _ _ _ _ _ _ _
    · cases h
  · cases h
noncomputable def A46 : List Value → Option Pg
  | [(.int .i64 i0)] => some (T46 i0)
  | _ => none
theorem A46_ok : ∀ args p, A46 args = some p → progOf PROG false 46 args = p := by
  intro args p h
  unfold A46 at h
  split at h
  · cases h; exact T46_eq _
  · cases h
noncomputable def A47 : List Value → Option Pg
  | [(.agg c0), (.slice p6 n7 n8), (.slice p9 n10 n11)] => (match c0.toList with
    | [(.slice p0 n1 n2), (.slice p3 n4 n5)] => some (T47 p0 n1 n2 p3 n4 n5 p6 n7 n8 p9 n10 n11)
    | _ => none)
  | _ => none
theorem A47_ok : ∀ args p, A47 args = some p → progOf PROG false 47 args = p := by
  intro args p h
  unfold A47 at h
  split at h
  · split at h
    · rename_i e0
      have f0 := agg_of e0
      subst f0
      cases h
      exact T47_eq _ _ _ _ _ _ _ _ _ _ _ _
    · cases h
  · cases h
noncomputable def A48 : List Value → Option Pg
  | [(.agg c0), (.slice p6 n7 n8)] => (match c0.toList with
    | [(.slice p0 n1 n2), (.slice p3 n4 n5)] => some (T48 p0 n1 n2 p3 n4 n5 p6 n7 n8)
    | _ => none)
  | _ => none
theorem A48_ok : ∀ args p, A48 args = some p → progOf PROG false 48 args = p := by
  intro args p h
  unfold A48 at h
  split at h
  · split at h
    · rename_i e0
      have f0 := agg_of e0
      subst f0
      cases h
      exact T48_eq _ _ _ _ _ _ _ _ _
    · cases h
  · cases h
noncomputable def A50 : List Value → Option Pg
  | [(.string s0), v1] => some (T50 s0 v1)
  | _ => none
theorem A50_ok : ∀ args p, A50 args = some p → progOf PROG false 50 args = p := by
  intro args p h
  unfold A50 at h
  split at h
  · cases h; exact T50_eq _ _
  · cases h
noncomputable def A51 : List Value → Option Pg
  | [(.int .i32 i0)] => some (T51 i0)
  | _ => none
theorem A51_ok : ∀ args p, A51 args = some p → progOf PROG false 51 args = p := by
  intro args p h
  unfold A51 at h
  split at h
  · cases h; exact T51_eq _
  · cases h
noncomputable def A52 : List Value → Option Pg
  | [(.int .i32 i0)] => some (T52 i0)
  | _ => none
theorem A52_ok : ∀ args p, A52 args = some p → progOf PROG false 52 args = p := by
  intro args p h
  unfold A52 at h
  split at h
  · cases h; exact T52_eq _
  · cases h
noncomputable def A53 : List Value → Option Pg
  | [(.string s0), (.string s1)] => some (T53 s0 s1)
  | _ => none
theorem A53_ok : ∀ args p, A53 args = some p → progOf PROG false 53 args = p := by
  intro args p h
  unfold A53 at h
  split at h
  · cases h; exact T53_eq _ _
  · cases h
noncomputable def A54 : List Value → Option Pg
  | [(.string s0)] => some (T54 s0)
  | _ => none
theorem A54_ok : ∀ args p, A54 args = some p → progOf PROG false 54 args = p := by
  intro args p h
  unfold A54 at h
  split at h
  · cases h; exact T54_eq _
  · cases h
noncomputable def A55 : List Value → Option Pg
  | [(.string s0)] => some (T55 s0)
  | _ => none
theorem A55_ok : ∀ args p, A55 args = some p → progOf PROG false 55 args = p := by
  intro args p h
  unfold A55 at h
  split at h
  · cases h; exact T55_eq _
  · cases h
noncomputable def A56 : List Value → Option Pg
  | [(.string s0)] => some (T56 s0)
  | _ => none
theorem A56_ok : ∀ args p, A56 args = some p → progOf PROG false 56 args = p := by
  intro args p h
  unfold A56 at h
  split at h
  · cases h; exact T56_eq _
  · cases h
noncomputable def A57 : List Value → Option Pg
  | [(.int .i32 i0)] => some (T57 i0)
  | _ => none
theorem A57_ok : ∀ args p, A57 args = some p → progOf PROG false 57 args = p := by
  intro args p h
  unfold A57 at h
  split at h
  · cases h; exact T57_eq _
  · cases h
noncomputable def A58 : List Value → Option Pg
  | [(.string s0)] => some (T58 s0)
  | _ => none
theorem A58_ok : ∀ args p, A58 args = some p → progOf PROG false 58 args = p := by
  intro args p h
  unfold A58 at h
  split at h
  · cases h; exact T58_eq _
  · cases h
noncomputable def A59 : List Value → Option Pg
  | [(.string s0)] => some (T59 s0)
  | _ => none
theorem A59_ok : ∀ args p, A59 args = some p → progOf PROG false 59 args = p := by
  intro args p h
  unfold A59 at h
  split at h
  · cases h; exact T59_eq _
  · cases h
noncomputable def A60 : List Value → Option Pg
  | [(.pointer p0)] => some (T60 p0)
  | _ => none
theorem A60_ok : ∀ args p, A60 args = some p → progOf PROG false 60 args = p := by
  intro args p h
  unfold A60 at h
  split at h
  · cases h; exact T60_eq _
  · cases h
noncomputable def A61 : List Value → Option Pg
  | [(.pointer p0)] => some (T61 p0)
  | _ => none
theorem A61_ok : ∀ args p, A61 args = some p → progOf PROG false 61 args = p := by
  intro args p h
  unfold A61 at h
  split at h
  · cases h; exact T61_eq _
  · cases h
noncomputable def A62 : List Value → Option Pg
  | [(.pointer p0)] => some (T62 p0)
  | _ => none
theorem A62_ok : ∀ args p, A62 args = some p → progOf PROG false 62 args = p := by
  intro args p h
  unfold A62 at h
  split at h
  · cases h; exact T62_eq _
  · cases h
noncomputable def A63 : List Value → Option Pg
  | [(.pointer p0)] => some (T63 p0)
  | _ => none
theorem A63_ok : ∀ args p, A63 args = some p → progOf PROG false 63 args = p := by
  intro args p h
  unfold A63 at h
  split at h
  · cases h; exact T63_eq _
  · cases h
noncomputable def A64 : List Value → Option Pg
  | [(.string s0)] => some (T64 s0)
  | _ => none
theorem A64_ok : ∀ args p, A64 args = some p → progOf PROG false 64 args = p := by
  intro args p h
  unfold A64 at h
  split at h
  · cases h; exact T64_eq _
  · cases h
noncomputable def A65 : List Value → Option Pg
  | [(.string s0)] => some (T65 s0)
  | _ => none
theorem A65_ok : ∀ args p, A65 args = some p → progOf PROG false 65 args = p := by
  intro args p h
  unfold A65 at h
  split at h
  · cases h; exact T65_eq _
  · cases h
noncomputable def A66 : List Value → Option Pg
  | [(.string s0)] => some (T66 s0)
  | _ => none
theorem A66_ok : ∀ args p, A66 args = some p → progOf PROG false 66 args = p := by
  intro args p h
  unfold A66 at h
  split at h
  · cases h; exact T66_eq _
  · cases h
noncomputable def A67 : List Value → Option Pg
  | [(.string s0), (.pointer (some a1))] => some (T67 s0 a1)
  | _ => none
theorem A67_ok : ∀ args p, A67 args = some p → progOf PROG false 67 args = p := by
  intro args p h
  unfold A67 at h
  split at h
  · cases h; exact T67_eq _ _
  · cases h
noncomputable def A68 : List Value → Option Pg
  | [(.slice p0 n1 n2), (.string s3)] => some (T68 p0 n1 n2 s3)
  | _ => none
theorem A68_ok : ∀ args p, A68 args = some p → progOf PROG false 68 args = p := by
  intro args p h
  unfold A68 at h
  split at h
  · cases h; exact T68_eq _ _ _ _
  · cases h
noncomputable def A69 : List Value → Option Pg
  | [(.string s0), (.pointer (some a1))] => some (T69 s0 a1)
  | _ => none
theorem A69_ok : ∀ args p, A69 args = some p → progOf PROG false 69 args = p := by
  intro args p h
  unfold A69 at h
  split at h
  · cases h; exact T69_eq _ _
  · cases h
noncomputable def A70 : List Value → Option Pg
  | [(.slice p0 n1 n2), v3] => some (T70 p0 n1 n2 v3)
  | _ => none
theorem A70_ok : ∀ args p, A70 args = some p → progOf PROG false 70 args = p := by
  intro args p h
  unfold A70 at h
  split at h
  · cases h; exact T70_eq _ _ _ _
  · cases h
noncomputable def A71 : List Value → Option Pg
  | [(.agg c0), (.agg c1)] => (match c0.toList with
    | [(.slice p0 n1 n2), (.slice p3 n4 n5)] => (match c1.toList with
    | [(.int .i64 i6), (.int .i64 i7), (.string s8), (.string s9), (.slice p10 n11 n12), (.int .i64 i13), (.int .i64 i14)] => some (T71 p0 n1 n2 p3 n4 n5 i6 i7 s8 s9 p10 n11 n12 i13 i14)
    | _ => none)
    | _ => none)
  | _ => none
theorem A71_ok : ∀ args p, A71 args = some p → progOf PROG false 71 args = p := by
  intro args p h
  unfold A71 at h
  split at h
  · split at h
    · split at h
      · rename_i e0 d1 x1_0 x1_1 x1_2 x1_3 x1_4 x1_5 x1_6 x1_7 x1_8 e1
        have f0 := agg_of e0
        subst f0
        have f1 := agg_of e1
        subst f1
        cases h
        exact T71_eq _ _ _ _ _ _ _ _ _ _ _ _ _ _ _
      · cases h
    · cases h
  · cases h
noncomputable def A72 : List Value → Option Pg
  | [(.pointer p0)] => some (T72 p0)
  | _ => none
theorem A72_ok : ∀ args p, A72 args = some p → progOf PROG false 72 args = p := by
  intro args p h
  unfold A72 at h
  split at h
  · cases h; exact T72_eq _
  · cases h
noncomputable def A73 : List Value → Option Pg
  | [(.pointer p0), (.string s1), (.agg c0)] => (match c0.toList with
    | [(.int .i64 i2), (.string s3), (.int .i64 i4), (.slice p5 n6 n7)] => some (T73 p0 s1 i2 s3 i4 p5 n6 n7)
    | _ => none)
  | _ => none
theorem A73_ok : ∀ args p, A73 args = some p → progOf PROG false 73 args = p := by
  intro args p h
  unfold A73 at h
  split at h
  · split at h
    · rename_i e0
      have f0 := agg_of e0
      subst f0
      cases h
      exact T73_eq _ _ _ _ _ _ _ _
    · cases h
  · cases h
noncomputable def A74 : List Value → Option Pg
  | [(.pointer p0), (.int .i64 i1), (.agg c0), (.agg c1)] => (match c0.toList with
    | [(.int .i64 i2), (.string s3), (.int .i64 i4), (.slice p5 n6 n7)] => (match c1.toList with
    | [(.int .i64 i8), (.string s9), (.int .i64 i10), (.slice p11 n12 n13)] => some (T74 p0 i1 i2 s3 i4 p5 n6 n7 i8 s9 i10 p11 n12 n13)
    | _ => none)
    | _ => none)
  | _ => none
theorem A74_ok : ∀ args p, A74 args = some p → progOf PROG false 74 args = p := by
  intro args p h
  unfold A74 at h
  split at h
  · split at h
    · split at h
      · rename_i e0 d1 x1_0 x1_1 x1_2 x1_3 x1_4 x1_5 e1
        have f0 := agg_of e0
        subst f0
        have f1 := agg_of e1
        subst f1
        cases h
        exact T74_eq _ _ _ _ _ _ _ _ _ _ _ _ _ _
      · cases h
    · cases h
  · cases h
noncomputable def A75 : List Value → Option Pg
  | [(.agg c0)] => (match c0.toList with
    | [(.int .i64 i0), (.string s1), (.int .i64 i2), (.slice p3 n4 n5)] => some (T75 i0 s1 i2 p3 n4 n5)
    | _ => none)
  | _ => none
theorem A75_ok : ∀ args p, A75 args = some p → progOf PROG false 75 args = p := by
  intro args p h
  unfold A75 at h
  split at h
  · split at h
    · rename_i e0
      have f0 := agg_of e0
      subst f0
      cases h
      exact T75_eq _ _ _ _ _ _
    · cases h
  · cases h
noncomputable def A76 : List Value → Option Pg
  | [(.agg c0), (.int .i64 i6)] => (match c0.toList with
    | [(.slice p0 n1 n2), (.slice p3 n4 n5)] => some (T76 p0 n1 n2 p3 n4 n5 i6)
    | _ => none)
  | _ => none
theorem A76_ok : ∀ args p, A76 args = some p → progOf PROG false 76 args = p := by
  intro args p h
  unfold A76 at h
  split at h
  · split at h
    · rename_i e0
      have f0 := agg_of e0
      subst f0
      cases h
      exact T76_eq _ _ _ _ _ _ _
    · cases h
  · cases h
noncomputable def A77 : List Value → Option Pg
  | [(.pointer p0), (.agg c0), (.slice p7 n8 n9)] => (match c0.toList with
    | [(.int .i64 i1), (.string s2), (.int .i64 i3), (.slice p4 n5 n6)] => some (T77 p0 i1 s2 i3 p4 n5 n6 p7 n8 n9)
    | _ => none)
  | _ => none
theorem A77_ok : ∀ args p, A77 args = some p → progOf PROG false 77 args = p := by
  intro args p h
  unfold A77 at h
  split at h
  · split at h
    · rename_i e0
      have f0 := agg_of e0
      subst f0
      cases h
      exact T77_eq _ _ _ _ _ _ _ _ _ _
    · cases h
  · cases h
noncomputable def A78 : List Value → Option Pg
  | [(.pointer p0)] => some (T78 p0)
  | _ => none
theorem A78_ok : ∀ args p, A78 args = some p → progOf PROG false 78 args = p := by
  intro args p h
  unfold A78 at h
  split at h
  · cases h; exact T78_eq _
  · cases h
noncomputable def A79 : List Value → Option Pg
  | [(.pointer p0), (.int .i64 i1), (.agg c0), (.pointer p11)] => (match c0.toList with
    | [(.int .i64 i2), (.int .i64 i3), (.string s4), (.string s5), (.slice p6 n7 n8), (.int .i64 i9), (.int .i64 i10)] => some (T79 p0 i1 i2 i3 s4 s5 p6 n7 n8 i9 i10 p11)
    | _ => none)
  | _ => none
theorem A79_ok : ∀ args p, A79 args = some p → progOf PROG false 79 args = p := by
  intro args p h
  unfold A79 at h
  split at h
  · split at h
    · rename_i e0
      have f0 := agg_of e0
      subst f0
      cases h
      exact T79_eq _ _ _ _ _ _ _ _ _ _ _ _
    · cases h
  · cases h
noncomputable def A80 : List Value → Option Pg
  | [(.pointer p0), (.agg c0), (.pointer p10)] => (match c0.toList with
    | [(.int .i64 i1), (.int .i64 i2), (.string s3), (.string s4), (.slice p5 n6 n7), (.int .i64 i8), (.int .i64 i9)] => some (T80 p0 i1 i2 s3 s4 p5 n6 n7 i8 i9 p10)
    | _ => none)
  | _ => none
theorem A80_ok : ∀ args p, A80 args = some p → progOf PROG false 80 args = p := by
  intro args p h
  unfold A80 at h
  split at h
  · split at h
    · rename_i e0
      have f0 := agg_of e0
      subst f0
      cases h
      exact T80_eq _ _ _ _ _ _ _ _ _ _ _
    · cases h
  · cases h
noncomputable def A81 : List Value → Option Pg
  | [(.pointer p0), (.int .i64 i1), (.pointer p2), (.agg c0)] => (match c0.toList with
    | [(.int .i64 i3), (.string s4), (.int .i64 i5), (.slice p6 n7 n8)] => some (T81 p0 i1 p2 i3 s4 i5 p6 n7 n8)
    | _ => none)
  | _ => none
theorem A81_ok : ∀ args p, A81 args = some p → progOf PROG false 81 args = p := by
  intro args p h
  unfold A81 at h
  split at h
  · split at h
    · rename_i e0
      have f0 := agg_of e0
      subst f0
      cases h
      exact T81_eq _ _ _ _ _ _ _ _ _
    · cases h
  · cases h
noncomputable def A82 : List Value → Option Pg
  | [(.pointer p0), (.string s1)] => some (T82 p0 s1)
  | _ => none
theorem A82_ok : ∀ args p, A82 args = some p → progOf PROG false 82 args = p := by
  intro args p h
  unfold A82 at h
  split at h
  · cases h; exact T82_eq _ _
  · cases h
noncomputable def A83 : List Value → Option Pg
  | [(.pointer p0), (.agg c0)] => (match c0.toList with
    | [(.slice p1 n2 n3), (.int .i64 i4), (.string s5), (.int .i64 i6), (.slice p7 n8 n9)] => some (T83 p0 p1 n2 n3 i4 s5 i6 p7 n8 n9)
    | _ => none)
  | _ => none
theorem A83_ok : ∀ args p, A83 args = some p → progOf PROG false 83 args = p := by
  intro args p h
  unfold A83 at h
  split at h
  · split at h
    · rename_i e0
      have f0 := agg_of e0
      subst f0
      cases h
      exact T83_eq _ _ _ _ _ _ _ _ _ _
    · cases h
  · cases h
noncomputable def A84 : List Value → Option Pg
  | [(.pointer p0), (.agg c0)] => (match c0.toList with
    | [(.int .i64 i1), (.int .i64 i2), (.string s3), (.string s4), (.slice p5 n6 n7), (.int .i64 i8), (.int .i64 i9)] => some (T84 p0 i1 i2 s3 s4 p5 n6 n7 i8 i9)
    | _ => none)
  | _ => none
theorem A84_ok : ∀ args p, A84 args = some p → progOf PROG false 84 args = p := by
  intro args p h
  unfold A84 at h
  split at h
  · split at h
    · rename_i e0
      have f0 := agg_of e0
      subst f0
      cases h
      exact T84_eq _ _ _ _ _ _ _ _ _ _
    · cases h
  · cases h
noncomputable def A85 : List Value → Option Pg
  | [(.pointer p0), (.agg c0)] => (match c0.toList with
    | [(.int .i64 i1), (.int .i64 i2), (.string s3), (.string s4), (.slice p5 n6 n7), (.int .i64 i8), (.int .i64 i9)] => some (T85 p0 i1 i2 s3 s4 p5 n6 n7 i8 i9)
    | _ => none)
  | _ => none
theorem A85_ok : ∀ args p, A85 args = some p → progOf PROG false 85 args = p := by
  intro args p h
  unfold A85 at h
  split at h
  · split at h
    · rename_i e0
      have f0 := agg_of e0
      subst f0
      cases h
      exact T85_eq _ _ _ _ _ _ _ _ _ _
    · cases h
  · cases h
noncomputable def A86 : List Value → Option Pg
  | [(.agg c0)] => (match c0.toList with
    | [(.int .i64 i0), (.string s1), (.int .i64 i2), (.slice p3 n4 n5)] => some (T86 i0 s1 i2 p3 n4 n5)
    | _ => none)
  | _ => none
theorem A86_ok : ∀ args p, A86 args = some p → progOf PROG false 86 args = p := by
  intro args p h
  unfold A86 at h
  split at h
  · split at h
    · rename_i e0
      have f0 := agg_of e0
      subst f0
      cases h
      exact T86_eq _ _ _ _ _ _
    · cases h
  · cases h
noncomputable def A87 : List Value → Option Pg
  | [(.agg c0)] => (match c0.toList with
    | [(.int .i64 i0), (.string s1), (.int .i64 i2), (.slice p3 n4 n5)] => some (T87 i0 s1 i2 p3 n4 n5)
    | _ => none)
  | _ => none
theorem A87_ok : ∀ args p, A87 args = some p → progOf PROG false 87 args = p := by
  intro args p h
  unfold A87 at h
  split at h
  · split at h
    · rename_i e0
      have f0 := agg_of e0
      subst f0
      cases h
      exact T87_eq _ _ _ _ _ _
    · cases h
  · cases h
noncomputable def A88 : List Value → Option Pg
  | [(.pointer p0), (.agg c0)] => (match c0.toList with
    | [(.int .i64 i1), (.string s2), (.int .i64 i3), (.slice p4 n5 n6)] => some (T88 p0 i1 s2 i3 p4 n5 n6)
    | _ => none)
  | _ => none
theorem A88_ok : ∀ args p, A88 args = some p → progOf PROG false 88 args = p := by
  intro args p h
  unfold A88 at h
  split at h
  · split at h
    · rename_i e0
      have f0 := agg_of e0
      subst f0
      cases h
      exact T88_eq _ _ _ _ _ _ _
    · cases h
  · cases h
noncomputable def A89 : List Value → Option Pg
  | [(.pointer p0), (.slice p1 n2 n3), (.slice p4 n5 n6)] => some (T89 p0 p1 n2 n3 p4 n5 n6)
  | _ => none
theorem A89_ok : ∀ args p, A89 args = some p → progOf PROG false 89 args = p := by
  intro args p h
  unfold A89 at h
  split at h
  · cases h; exact T89_eq _ _ _ _ _ _ _
  · cases h
noncomputable def A90 : List Value → Option Pg
  | [(.slice p0 n1 n2), (.int .i64 i3)] => some (T90 p0 n1 n2 i3)
  | _ => none
theorem A90_ok : ∀ args p, A90 args = some p → progOf PROG false 90 args = p := by
  intro args p h
  unfold A90 at h
  split at h
  · cases h; exact T90_eq _ _ _ _
  · cases h
noncomputable def A93 : List Value → Option Pg
  | [(.string s0), (.string s1)] => some (T93 s0 s1)
  | _ => none
theorem A93_ok : ∀ args p, A93 args = some p → progOf PROG false 93 args = p := by
  intro args p h
  unfold A93 at h
  split at h
  · cases h; exact T93_eq _ _
  · cases h
noncomputable def A94 : List Value → Option Pg
  | [(.string s0)] => some (T94 s0)
  | _ => none
theorem A94_ok : ∀ args p, A94 args = some p → progOf PROG false 94 args = p := by
  intro args p h
  unfold A94 at h
  split at h
  · cases h; exact T94_eq _
  · cases h
noncomputable def A95 : List Value → Option Pg
  | [(.int .i32 i0)] => some (T95 i0)
  | _ => none
theorem A95_ok : ∀ args p, A95 args = some p → progOf PROG false 95 args = p := by
  intro args p h
  unfold A95 at h
  split at h
  · cases h; exact T95_eq _
  · cases h
noncomputable def A96 : List Value → Option Pg
  | [(.string s0)] => some (T96 s0)
  | _ => none
theorem A96_ok : ∀ args p, A96 args = some p → progOf PROG false 96 args = p := by
  intro args p h
  unfold A96 at h
  split at h
  · cases h; exact T96_eq _
  · cases h
noncomputable def A97 : List Value → Option Pg
  | [(.string s0)] => some (T97 s0)
  | _ => none
theorem A97_ok : ∀ args p, A97 args = some p → progOf PROG false 97 args = p := by
  intro args p h
  unfold A97 at h
  split at h
  · cases h; exact T97_eq _
  · cases h
noncomputable def A98 : List Value → Option Pg
  | [(.pointer p0)] => some (T98 p0)
  | _ => none
theorem A98_ok : ∀ args p, A98 args = some p → progOf PROG false 98 args = p := by
  intro args p h
  unfold A98 at h
  split at h
  · cases h; exact T98_eq _
  · cases h
noncomputable def A99 : List Value → Option Pg
  | [(.agg c0), (.pointer p4), (.pointer p5)] => (match c0.toList with
    | [(.int .i64 i0), (.string s1), (.int .i64 i2), (.int .i64 i3)] => some (T99 i0 s1 i2 i3 p4 p5)
    | _ => none)
  | _ => none
theorem A99_ok : ∀ args p, A99 args = some p → progOf PROG false 99 args = p := by
  intro args p h
  unfold A99 at h
  split at h
  · split at h
    · rename_i e0
      have f0 := agg_of e0
      subst f0
      cases h
      exact T99_eq _ _ _ _ _ _
    · cases h
  · cases h
noncomputable def A100 : List Value → Option Pg
  | [(.string s0), (.int .i64 i1)] => some (T100 s0 i1)
  | _ => none
theorem A100_ok : ∀ args p, A100 args = some p → progOf PROG false 100 args = p := by
  intro args p h
  unfold A100 at h
  split at h
  · cases h; exact T100_eq _ _
  · cases h
noncomputable def A101 : List Value → Option Pg
  | [(.slice p0 n1 n2), (.string s3)] => some (T101 p0 n1 n2 s3)
  | _ => none
theorem A101_ok : ∀ args p, A101 args = some p → progOf PROG false 101 args = p := by
  intro args p h
  unfold A101 at h
  split at h
  · cases h; exact T101_eq _ _ _ _
  · cases h
noncomputable def A102 : List Value → Option Pg
  | [(.slice p0 n1 n2), v3] => some (T102 p0 n1 n2 v3)
  | _ => none
theorem A102_ok : ∀ args p, A102 args = some p → progOf PROG false 102 args = p := by
  intro args p h
  unfold A102 at h
  split at h
  · cases h; exact T102_eq _ _ _ _
  · cases h
noncomputable def A103 : List Value → Option Pg
  | [(.agg c0)] => (match c0.toList with
    | [(.int .i64 i0), (.int .i64 i1), (.string s2), (.string s3), (.slice p4 n5 n6), (.int .i64 i7), (.int .i64 i8)] => some (T103 i0 i1 s2 s3 p4 n5 n6 i7 i8)
    | _ => none)
  | _ => none
theorem A103_ok : ∀ args p, A103 args = some p → progOf PROG false 103 args = p := by
  intro args p h
  unfold A103 at h
  split at h
  · split at h
    · rename_i e0
      have f0 := agg_of e0
      subst f0
      cases h
      exact T103_eq _ _ _ _ _ _ _ _ _
    · cases h
  · cases h
noncomputable def A104 : List Value → Option Pg
  | [(.agg c0)] => (match c0.toList with
    | [(.int .i64 i0), (.int .i64 i1), (.string s2), (.string s3), (.slice p4 n5 n6), (.int .i64 i7), (.int .i64 i8)] => some (T104 i0 i1 s2 s3 p4 n5 n6 i7 i8)
    | _ => none)
  | _ => none
theorem A104_ok : ∀ args p, A104 args = some p → progOf PROG false 104 args = p := by
  intro args p h
  unfold A104 at h
  split at h
  · split at h
    · rename_i e0
      have f0 := agg_of e0
      subst f0
      cases h
      exact T104_eq _ _ _ _ _ _ _ _ _
    · cases h
  · cases h
noncomputable def A105 : List Value → Option Pg
  | [(.int .i64 i0)] => some (T105 i0)
  | _ => none
theorem A105_ok : ∀ args p, A105 args = some p → progOf PROG false 105 args = p := by
  intro args p h
  unfold A105 at h
  split at h
  · cases h; exact T105_eq _
  · cases h
noncomputable def A106 : List Value → Option Pg
  | [(.agg c0), (.string s6)] => (match c0.toList with
    | [(.slice p0 n1 n2), (.slice p3 n4 n5)] => some (T106 p0 n1 n2 p3 n4 n5 s6)
    | _ => none)
  | _ => none
theorem A106_ok : ∀ args p, A106 args = some p → progOf PROG false 106 args = p := by
  intro args p h
  unfold A106 at h
  split at h
  · split at h
    · rename_i e0
      have f0 := agg_of e0
      subst f0
      cases h
      exact T106_eq _ _ _ _ _ _ _
    · cases h
  · cases h
noncomputable def A108 : List Value → Option Pg
  | [(.slice p0 n1 n2), v3] => some (T108 p0 n1 n2 v3)
  | _ => none
theorem A108_ok : ∀ args p, A108 args = some p → progOf PROG false 108 args = p := by
  intro args p h
  unfold A108 at h
  split at h
  · cases h; exact T108_eq _ _ _ _
  · cases h
noncomputable def A109 : List Value → Option Pg
  | [(.agg c0)] => (match c0.toList with
    | [(.slice p0 n1 n2), (.int .i64 i3), (.string s4), (.int .i64 i5), (.slice p6 n7 n8)] => some (T109 p0 n1 n2 i3 s4 i5 p6 n7 n8)
    | _ => none)
  | _ => none
theorem A109_ok : ∀ args p, A109 args = some p → progOf PROG false 109 args = p := by
  intro args p h
  unfold A109 at h
  split at h
  · split at h
    · rename_i e0
      have f0 := agg_of e0
      subst f0
      cases h
      exact T109_eq _ _ _ _ _ _ _ _ _
    · cases h
  · cases h
noncomputable def A110 : List Value → Option Pg
  | [(.agg c0)] => (match c0.toList with
    | [(.slice p0 n1 n2), (.int .i64 i3), (.string s4), (.int .i64 i5), (.slice p6 n7 n8)] => some (T110 p0 n1 n2 i3 s4 i5 p6 n7 n8)
    | _ => none)
  | _ => none
theorem A110_ok : ∀ args p, A110 args = some p → progOf PROG false 110 args = p := by
  intro args p h
  unfold A110 at h
  split at h
  · split at h
    · rename_i e0
      have f0 := agg_of e0
      subst f0
      cases h
      exact T110_eq _ _ _ _ _ _ _ _ _
    · cases h
  · cases h
noncomputable def A111 : List Value → Option Pg
  | [(.pointer p0), (.agg c0)] => (match c0.toList with
    | [(.slice p1 n2 n3), (.int .i64 i4), (.string s5), (.int .i64 i6), (.slice p7 n8 n9)] => some (T111 p0 p1 n2 n3 i4 s5 i6 p7 n8 n9)
    | _ => none)
  | _ => none
theorem A111_ok : ∀ args p, A111 args = some p → progOf PROG false 111 args = p := by
  intro args p h
  unfold A111 at h
  split at h
  · split at h
    · rename_i e0
      have f0 := agg_of e0
      subst f0
      cases h
      exact T111_eq _ _ _ _ _ _ _ _ _ _
    · cases h
  · cases h
noncomputable def A112 : List Value → Option Pg
  | [(.slice p0 n1 n2)] => some (T112 p0 n1 n2)
  | _ => none
theorem A112_ok : ∀ args p, A112 args = some p → progOf PROG false 112 args = p := by
  intro args p h
  unfold A112 at h
  split at h
  · cases h; exact T112_eq _ _ _
  · cases h
noncomputable def A113 : List Value → Option Pg
  | [(.pointer p0), (.int .i64 i1), (.pointer p2)] => some (T113 p0 i1 p2)
  | _ => none
theorem A113_ok : ∀ args p, A113 args = some p → progOf PROG false 113 args = p := by
  intro args p h
  unfold A113 at h
  split at h
  · cases h; exact T113_eq _ _ _
  · cases h
noncomputable def A114 : List Value → Option Pg
  | [(.agg c0), (.map m6)] => (match c0.toList with
    | [(.int .i64 i0), (.string s1), (.int .i64 i2), (.slice p3 n4 n5)] => some (T114 i0 s1 i2 p3 n4 n5 m6)
    | _ => none)
  | _ => none
theorem A114_ok : ∀ args p, A114 args = some p → progOf PROG false 114 args = p := by
  intro args p h
  unfold A114 at h
  split at h
  · split at h
    · rename_i e0
      have f0 := agg_of e0
      subst f0
      cases h
      exact T114_eq _ _ _ _ _ _ _
    · cases h
  · cases h
noncomputable def A115 : List Value → Option Pg
  | [(.string s0)] => some (T115 s0)
  | _ => none
theorem A115_ok : ∀ args p, A115 args = some p → progOf PROG false 115 args = p := by
  intro args p h
  unfold A115 at h
  split at h
  · cases h; exact T115_eq _
  · cases h
noncomputable def A116 : List Value → Option Pg
  | [(.agg c0), (.int .i64 i6)] => (match c0.toList with
    | [(.int .i64 i0), (.string s1), (.int .i64 i2), (.slice p3 n4 n5)] => some (T116 i0 s1 i2 p3 n4 n5 i6)
    | _ => none)
  | _ => none
theorem A116_ok : ∀ args p, A116 args = some p → progOf PROG false 116 args = p := by
  intro args p h
  unfold A116 at h
  split at h
  · split at h
    · rename_i e0
      have f0 := agg_of e0
      subst f0
      cases h
      exact T116_eq _ _ _ _ _ _ _
    · cases h
  · cases h
noncomputable def A117 : List Value → Option Pg
  | [(.int .i64 i0)] => some (T117 i0)
  | _ => none
theorem A117_ok : ∀ args p, A117 args = some p → progOf PROG false 117 args = p := by
  intro args p h
  unfold A117 at h
  split at h
  · cases h; exact T117_eq _
  · cases h
noncomputable def A118 : List Value → Option Pg
  | [(.pointer p0), (.int .i64 i1)] => some (T118 p0 i1)
  | _ => none
theorem A118_ok : ∀ args p, A118 args = some p → progOf PROG false 118 args = p := by
  intro args p h
  unfold A118 at h
  split at h
  · cases h; exact T118_eq _ _
  · cases h
noncomputable def A119 : List Value → Option Pg
  | [(.pointer p0), (.slice p1 n2 n3), (.agg c0)] => (match c0.toList with
    | [(.int .i64 i4), (.int .i64 i5), (.string s6)] => some (T119 p0 p1 n2 n3 i4 i5 s6)
    | _ => none)
  | _ => none
theorem A119_ok : ∀ args p, A119 args = some p → progOf PROG false 119 args = p := by
  intro args p h
  unfold A119 at h
  split at h
  · split at h
    · rename_i e0
      have f0 := agg_of e0
      subst f0
      cases h
      exact T119_eq _ _ _ _ _ _ _
    · cases h
  · cases h
noncomputable def A120 : List Value → Option Pg
  | [(.pointer p0), (.slice p1 n2 n3), (.agg c0)] => (match c0.toList with
    | [(.int .i64 i4), (.int .i64 i5), (.string s6)] => some (T120 p0 p1 n2 n3 i4 i5 s6)
    | _ => none)
  | _ => none
theorem A120_ok : ∀ args p, A120 args = some p → progOf PROG false 120 args = p := by
  intro args p h
  unfold A120 at h
  split at h
  · split at h
    · rename_i e0
      have f0 := agg_of e0
      subst f0
      cases h
      exact T120_eq _ _ _ _ _ _ _
    · cases h
  · cases h
noncomputable def A121 : List Value → Option Pg
  | [(.pointer p0), (.slice p1 n2 n3)] => some (T121 p0 p1 n2 n3)
  | _ => none
theorem A121_ok : ∀ args p, A121 args = some p → progOf PROG false 121 args = p := by
  intro args p h
  unfold A121 at h
  split at h
  · cases h; exact T121_eq _ _ _ _
  · cases h
noncomputable def A122 : List Value → Option Pg
  | [(.pointer p0), (.slice p1 n2 n3)] => some (T122 p0 p1 n2 n3)
  | _ => none
theorem A122_ok : ∀ args p, A122 args = some p → progOf PROG false 122 args = p := by
  intro args p h
  unfold A122 at h
  split at h
  · cases h; exact T122_eq _ _ _ _
  · cases h
noncomputable def A129 : List Value → Option Pg
  | [(.pointer p0)] => some (T129 p0)
  | _ => none
theorem A129_ok : ∀ args p, A129 args = some p → progOf PROG false 129 args = p := by
  intro args p h
  unfold A129 at h
  split at h
  · cases h; exact T129_eq _
  · cases h
noncomputable def A133 : List Value → Option Pg
  | [(.slice p0 n1 n2), v3] => some (T133 p0 n1 n2 v3)
  | _ => none
theorem A133_ok : ∀ args p, A133 args = some p → progOf PROG false 133 args = p := by
  intro args p h
  unfold A133 at h
  split at h
  · cases h; exact T133_eq _ _ _ _
  · cases h
noncomputable def A134 : List Value → Option Pg
  | [(.slice p0 n1 n2), (.int .i64 i3)] => some (T134 p0 n1 n2 i3)
  | _ => none
theorem A134_ok : ∀ args p, A134 args = some p → progOf PROG false 134 args = p := by
  intro args p h
  unfold A134 at h
  split at h
  · cases h; exact T134_eq _ _ _ _
  · cases h
noncomputable def A135 : List Value → Option Pg
  | [(.agg c0), (.agg c1)] => (match c0.toList with
    | [(.int .i64 i0), (.string s1), (.int .i64 i2), (.slice p3 n4 n5)] => (match c1.toList with
    | [(.int .i64 i6), (.string s7), (.int .i64 i8), (.slice p9 n10 n11)] => some (T135 i0 s1 i2 p3 n4 n5 i6 s7 i8 p9 n10 n11)
    | _ => none)
    | _ => none)
  | _ => none
theorem A135_ok : ∀ args p, A135 args = some p → progOf PROG false 135 args = p := by
  intro args p h
  unfold A135 at h
  split at h
  · split at h
    · split at h
      · rename_i e0 d1 x1_0 x1_1 x1_2 x1_3 x1_4 x1_5 e1
        have f0 := agg_of e0
        subst f0
        have f1 := agg_of e1
        subst f1
        cases h
        exact T135_eq _ _ _ _ _ _ _ _ _ _ _ _
      · cases h
    · cases h
  · cases h
noncomputable def A136 : List Value → Option Pg
  | [(.slice p0 n1 n2), (.int .i64 i3), (.int .i64 i4), (.int .i64 i5)] => some (T136 p0 n1 n2 i3 i4 i5)
  | _ => none
theorem A136_ok : ∀ args p, A136 args = some p → progOf PROG false 136 args = p := by
  intro args p h
  unfold A136 at h
  split at h
  · cases h; exact T136_eq _ _ _ _ _ _
  · cases h
noncomputable def A137 : List Value → Option Pg
  | [(.int .u64 i0)] => some (T137 i0)
  | _ => none
theorem A137_ok : ∀ args p, A137 args = some p → progOf PROG false 137 args = p := by
  intro args p h
  unfold A137 at h
  split at h
  · cases h; exact T137_eq _
  · cases h
noncomputable def A138 : List Value → Option Pg
  | [(.pointer p0), (.int .i64 i1)] => some (T138 p0 i1)
  | _ => none
theorem A138_ok : ∀ args p, A138 args = some p → progOf PROG false 138 args = p := by
  intro args p h
  unfold A138 at h
  split at h
  · cases h; exact T138_eq _ _
  · cases h
noncomputable def A139 : List Value → Option Pg
  | [(.pointer p0), (.agg c0)] => (match c0.toList with
    | [(.int .i64 i1), (.int .i64 i2), (.string s3)] => some (T139 p0 i1 i2 s3)
    | _ => none)
  | _ => none
theorem A139_ok : ∀ args p, A139 args = some p → progOf PROG false 139 args = p := by
  intro args p h
  unfold A139 at h
  split at h
  · split at h
    · rename_i e0
      have f0 := agg_of e0
      subst f0
      cases h
      exact T139_eq _ _ _ _
    · cases h
  · cases h
noncomputable def A141 : List Value → Option Pg
  | [(.int .u64 i0)] => some (T141 i0)
  | _ => none
theorem A141_ok : ∀ args p, A141 args = some p → progOf PROG false 141 args = p := by
  intro args p h
  unfold A141 at h
  split at h
  · cases h; exact T141_eq _
  · cases h
noncomputable def A147 : List Value → Option Pg
  | [(.pointer p0)] => some (T147 p0)
  | _ => none
theorem A147_ok : ∀ args p, A147 args = some p → progOf PROG false 147 args = p := by
  intro args p h
  unfold A147 at h
  split at h
  · cases h; exact T147_eq _
  · cases h
noncomputable def A150 : List Value → Option Pg
  | [(.slice p0 n1 n2), (.int .i64 i3)] => some (T150 p0 n1 n2 i3)
  | _ => none
theorem A150_ok : ∀ args p, A150 args = some p → progOf PROG false 150 args = p := by
  intro args p h
  unfold A150 at h
  split at h
  · cases h; exact T150_eq _ _ _ _
  · cases h
noncomputable def A151 : List Value → Option Pg
  | [(.slice p0 n1 n2), (.int .i64 i3), (.int .i64 i4)] => some (T151 p0 n1 n2 i3 i4)
  | _ => none
theorem A151_ok : ∀ args p, A151 args = some p → progOf PROG false 151 args = p := by
  intro args p h
  unfold A151 at h
  split at h
  · cases h; exact T151_eq _ _ _ _ _
  · cases h
noncomputable def A152 : List Value → Option Pg
  | [(.slice p0 n1 n2), (.int .i64 i3), (.int .i64 i4)] => some (T152 p0 n1 n2 i3 i4)
  | _ => none
theorem A152_ok : ∀ args p, A152 args = some p → progOf PROG false 152 args = p := by
  intro args p h
  unfold A152 at h
  split at h
  · cases h; exact T152_eq _ _ _ _ _
  · cases h
noncomputable def A153 : List Value → Option Pg
  | [(.slice p0 n1 n2), (.int .i64 i3), (.int .i64 i4)] => some (T153 p0 n1 n2 i3 i4)
  | _ => none
theorem A153_ok : ∀ args p, A153 args = some p → progOf PROG false 153 args = p := by
  intro args p h
  unfold A153 at h
  split at h
  · cases h; exact T153_eq _ _ _ _ _
  · cases h
noncomputable def A154 : List Value → Option Pg
  | [(.slice p0 n1 n2), (.int .i64 i3), (.int .i64 i4)] => some (T154 p0 n1 n2 i3 i4)
  | _ => none
theorem A154_ok : ∀ args p, A154 args = some p → progOf PROG false 154 args = p := by
  intro args p h
  unfold A154 at h
  split at h
  · cases h; exact T154_eq _ _ _ _ _
  · cases h
noncomputable def A155 : List Value → Option Pg
  | [(.slice p0 n1 n2), (.int .i64 i3), (.int .i64 i4)] => some (T155 p0 n1 n2 i3 i4)
  | _ => none
theorem A155_ok : ∀ args p, A155 args = some p → progOf PROG false 155 args = p := by
  intro args p h
  unfold A155 at h
  split at h
  · cases h; exact T155_eq _ _ _ _ _
  · cases h
noncomputable def A156 : List Value → Option Pg
  | [(.slice p0 n1 n2), (.int .i64 i3), (.int .i64 i4)] => some (T156 p0 n1 n2 i3 i4)
  | _ => none
theorem A156_ok : ∀ args p, A156 args = some p → progOf PROG false 156 args = p := by
  intro args p h
  unfold A156 at h
  split at h
  · cases h; exact T156_eq _ _ _ _ _
  · cases h
noncomputable def A157 : List Value → Option Pg
  | [(.int .i64 i0), (.int .i64 i1)] => some (T157 i0 i1)
  | _ => none
theorem A157_ok : ∀ args p, A157 args = some p → progOf PROG false 157 args = p := by
  intro args p h
  unfold A157 at h
  split at h
  · cases h; exact T157_eq _ _
  · cases h
noncomputable def A158 : List Value → Option Pg
  | [(.slice p0 n1 n2), (.int .i64 i3), (.int .i64 i4), (.int .i64 i5)] => some (T158 p0 n1 n2 i3 i4 i5)
  | _ => none
theorem A158_ok : ∀ args p, A158 args = some p → progOf PROG false 158 args = p := by
  intro args p h
  unfold A158 at h
  split at h
  · cases h; exact T158_eq _ _ _ _ _ _
  · cases h
noncomputable def A159 : List Value → Option Pg
  | [(.slice p0 n1 n2), (.int .i64 i3), (.int .i64 i4), (.int .i64 i5)] => some (T159 p0 n1 n2 i3 i4 i5)
  | _ => none
theorem A159_ok : ∀ args p, A159 args = some p → progOf PROG false 159 args = p := by
  intro args p h
  unfold A159 at h
  split at h
  · cases h; exact T159_eq _ _ _ _ _ _
  · cases h
noncomputable def A163 : List Value → Option Pg
  | [(.pointer p0)] => some (T163 p0)
  | _ => none
theorem A163_ok : ∀ args p, A163 args = some p → progOf PROG false 163 args = p := by
  intro args p h
  unfold A163 at h
  split at h
  · cases h; exact T163_eq _
  · cases h
noncomputable def A164 : List Value → Option Pg
  | [(.pointer p0)] => some (T164 p0)
  | _ => none
theorem A164_ok : ∀ args p, A164 args = some p → progOf PROG false 164 args = p := by
  intro args p h
  unfold A164 at h
  split at h
  · cases h; exact T164_eq _
  · cases h
noncomputable def A166 : List Value → Option Pg
  | [(.slice p0 n1 n2), (.int .i64 i3), (.int .i64 i4), (.int .i64 i5)] => some (T166 p0 n1 n2 i3 i4 i5)
  | _ => none
theorem A166_ok : ∀ args p, A166 args = some p → progOf PROG false 166 args = p := by
  intro args p h
  unfold A166 at h
  split at h
  · cases h; exact T166_eq _ _ _ _ _ _
  · cases h
noncomputable def A167 : List Value → Option Pg
  | [(.int .i64 i0)] => some (T167 i0)
  | _ => none
theorem A167_ok : ∀ args p, A167 args = some p → progOf PROG false 167 args = p := by
  intro args p h
  unfold A167 at h
  split at h
  · cases h; exact T167_eq _
  · cases h
noncomputable def A168 : List Value → Option Pg
  | [(.pointer p0)] => some (T168 p0)
  | _ => none
theorem A168_ok : ∀ args p, A168 args = some p → progOf PROG false 168 args = p := by
  intro args p h
  unfold A168 at h
  split at h
  · cases h; exact T168_eq _
  · cases h
noncomputable def A169 : List Value → Option Pg
  | [(.slice p0 n1 n2), (.int .i64 i3), (.pointer p4)] => some (T169 p0 n1 n2 i3 p4)
  | _ => none
theorem A169_ok : ∀ args p, A169 args = some p → progOf PROG false 169 args = p := by
  intro args p h
  unfold A169 at h
  split at h
  · cases h; exact T169_eq _ _ _ _ _
  · cases h
noncomputable def A170 : List Value → Option Pg
  | [(.slice p0 n1 n2), (.int .i64 i3), (.int .i64 i4), (.int .i64 i5), (.pointer p6)] => some (T170 p0 n1 n2 i3 i4 i5 p6)
  | _ => none
theorem A170_ok : ∀ args p, A170 args = some p → progOf PROG false 170 args = p := by
  intro args p h
  unfold A170 at h
  split at h
  · cases h; exact T170_eq _ _ _ _ _ _ _
  · cases h
noncomputable def A171 : List Value → Option Pg
  | [(.int .i64 i0)] => some (T171 i0)
  | _ => none
theorem A171_ok : ∀ args p, A171 args = some p → progOf PROG false 171 args = p := by
  intro args p h
  unfold A171 at h
  split at h
  · cases h; exact T171_eq _
  · cases h
noncomputable def A172 : List Value → Option Pg
  | [(.pointer p0)] => some (T172 p0)
  | _ => none
theorem A172_ok : ∀ args p, A172 args = some p → progOf PROG false 172 args = p := by
  intro args p h
  unfold A172 at h
  split at h
  · cases h; exact T172_eq _
  · cases h
noncomputable def A173 : List Value → Option Pg
  | [(.slice p0 n1 n2), (.int .i64 i3), (.int .i64 i4), (.pointer p5)] => some (T173 p0 n1 n2 i3 i4 p5)
  | _ => none
theorem A173_ok : ∀ args p, A173 args = some p → progOf PROG false 173 args = p := by
  intro args p h
  unfold A173 at h
  split at h
  · cases h; exact T173_eq _ _ _ _ _ _
  · cases h
noncomputable def A174 : List Value → Option Pg
  | [(.pointer p0)] => some (T174 p0)
  | _ => none
theorem A174_ok : ∀ args p, A174 args = some p → progOf PROG false 174 args = p := by
  intro args p h
  unfold A174 at h
  split at h
  · cases h; exact T174_eq _
  · cases h
noncomputable def A175 : List Value → Option Pg
  | [(.pointer p0)] => some (T175 p0)
  | _ => none
theorem A175_ok : ∀ args p, A175 args = some p → progOf PROG false 175 args = p := by
  intro args p h
  unfold A175 at h
  split at h
  · cases h; exact T175_eq _
  · cases h
noncomputable def A176 : List Value → Option Pg
  | [(.pointer p0)] => some (T176 p0)
  | _ => none
theorem A176_ok : ∀ args p, A176 args = some p → progOf PROG false 176 args = p := by
  intro args p h
  unfold A176 at h
  split at h
  · cases h; exact T176_eq _
  · cases h
noncomputable def A177 : List Value → Option Pg
  | [(.pointer p0)] => some (T177 p0)
  | _ => none
theorem A177_ok : ∀ args p, A177 args = some p → progOf PROG false 177 args = p := by
  intro args p h
  unfold A177 at h
  split at h
  · cases h; exact T177_eq _
  · cases h
noncomputable def A178 : List Value → Option Pg
  | [(.pointer p0)] => some (T178 p0)
  | _ => none
theorem A178_ok : ∀ args p, A178 args = some p → progOf PROG false 178 args = p := by
  intro args p h
  unfold A178 at h
  split at h
  · cases h; exact T178_eq _
  · cases h
noncomputable def A179 : List Value → Option Pg
  | [(.pointer p0)] => some (T179 p0)
  | _ => none
theorem A179_ok : ∀ args p, A179 args = some p → progOf PROG false 179 args = p := by
  intro args p h
  unfold A179 at h
  split at h
  · cases h; exact T179_eq _
  · cases h
noncomputable def A180 : List Value → Option Pg
  | [(.int .i64 i0), (.agg c0)] => (match c0.toList with
    | [(.int .i64 i1), (.string s2), (.int .i64 i3), (.int .i64 i4)] => some (T180 i0 i1 s2 i3 i4)
    | _ => none)
  | _ => none
theorem A180_ok : ∀ args p, A180 args = some p → progOf PROG false 180 args = p := by
  intro args p h
  unfold A180 at h
  split at h
  · split at h
    · rename_i e0
      have f0 := agg_of e0
      subst f0
      cases h
      exact T180_eq _ _ _ _ _
    · cases h
  · cases h
noncomputable def A181 : List Value → Option Pg
  | [(.pointer p0), (.int .i64 i1), v2] => some (T181 p0 i1 v2)
  | _ => none
theorem A181_ok : ∀ args p, A181 args = some p → progOf PROG false 181 args = p := by
  intro args p h
  unfold A181 at h
  split at h
  · cases h; exact T181_eq _ _ _
  · cases h
noncomputable def A182 : List Value → Option Pg
  | [(.pointer p0), (.int .i64 i1), (.int .i64 i2)] => some (T182 p0 i1 i2)
  | _ => none
theorem A182_ok : ∀ args p, A182 args = some p → progOf PROG false 182 args = p := by
  intro args p h
  unfold A182 at h
  split at h
  · cases h; exact T182_eq _ _ _
  · cases h
noncomputable def A183 : List Value → Option Pg
  | [(.pointer p0)] => some (T183 p0)
  | _ => none
theorem A183_ok : ∀ args p, A183 args = some p → progOf PROG false 183 args = p := by
  intro args p h
  unfold A183 at h
  split at h
  · cases h; exact T183_eq _
  · cases h
noncomputable def TAB : Tab := (.low 81 (.low 41 (.low 21 (.low 11 (.low 6 (.low 4 (.one 3 A3 (.one 4 A4 .nil)) (.one 5 A5 (.one 6 A6 .nil))) (.low 8 (.one 7 A7 (.one 8 A8 .nil)) (.one 9 A9 (.one 10 A10 (.one 11 A11 .nil))))) (.low 16 (.low 13 (.one 12 A12 (.one 13 A13 .nil)) (.one 14 A14 (.one 15 A15 (.one 16 A16 .nil)))) (.low 18 (.one 17 A17 (.one 18 A18 .nil)) (.one 19 A19 (.one 20 A20 (.one 21 A21 .nil)))))) (.low 31 (.low 25 (.low 23 (.one 22 A22 (.one 23 A23 .nil)) (.one 24 A24 (.one 25 A25 .nil))) (.low 28 (.one 27 A27 (.one 28 A28 .nil)) (.one 29 A29 (.one 30 A30 (.one 31 A31 .nil))))) (.low 36 (.low 33 (.one 32 A32 (.one 33 A33 .nil)) (.one 34 A34 (.one 35 A35 (.one 36 A36 .nil)))) (.low 38 (.one 37 A37 (.one 38 A38 .nil)) (.one 39 A39 (.one 40 A40 (.one 41 A41 .nil))))))) (.low 61 (.low 51 (.low 45 (.low 43 (.one 42 A42 (.one 43 A43 .nil)) (.one 44 A44 (.one 45 A45 .nil))) (.low 47 (.one 46 A46 (.one 47 A47 .nil)) (.one 48 A48 (.one 50 A50 (.one 51 A51 .nil))))) (.low 56 (.low 53 (.one 52 A52 (.one 53 A53 .nil)) (.one 54 A54 (.one 55 A55 (.one 56 A56 .nil)))) (.low 58 (.one 57 A57 (.one 58 A58 .nil)) (.one 59 A59 (.one 60 A60 (.one 61 A61 .nil)))))) (.low 71 (.low 66 (.low 63 (.one 62 A62 (.one 63 A63 .nil)) (.one 64 A64 (.one 65 A65 (.one 66 A66 .nil)))) (.low 68 (.one 67 A67 (.one 68 A68 .nil)) (.one 69 A69 (.one 70 A70 (.one 71 A71 .nil))))) (.low 76 (.low 73 (.one 72 A72 (.one 73 A73 .nil)) (.one 74 A74 (.one 75 A75 (.one 76 A76 .nil)))) (.low 78 (.one 77 A77 (.one 78 A78 .nil)) (.one 79 A79 (.one 80 A80 (.one 81 A81 .nil)))))))) (.low 129 (.low 102 (.low 90 (.low 85 (.low 83 (.one 82 A82 (.one 83 A83 .nil)) (.one 84 A84 (.one 85 A85 .nil))) (.low 87 (.one 86 A86 (.one 87 A87 .nil)) (.one 88 A88 (.one 89 A89 (.one 90 A90 .nil))))) (.low 97 (.low 94 (.one 93 A93 (.one 94 A94 .nil)) (.one 95 A95 (.one 96 A96 (.one 97 A97 .nil)))) (.low 99 (.one 98 A98 (.one 99 A99 .nil)) (.one 100 A100 (.one 101 A101 (.one 102 A102 .nil)))))) (.low 113 (.low 108 (.low 104 (.one 103 A103 (.one 104 A104 .nil)) (.one 105 A105 (.one 106 A106 (.one 108 A108 .nil)))) (.low 110 (.one 109 A109 (.one 110 A110 .nil)) (.one 111 A111 (.one 112 A112 (.one 113 A113 .nil))))) (.low 118 (.low 115 (.one 114 A114 (.one 115 A115 .nil)) (.one 116 A116 (.one 117 A117 (.one 118 A118 .nil)))) (.low 120 (.one 119 A119 (.one 120 A120 .nil)) (.one 121 A121 (.one 122 A122 (.one 129 A129 .nil))))))) (.low 159 (.low 147 (.low 136 (.low 134 (.one 133 A133 (.one 134 A134 .nil)) (.one 135 A135 (.one 136 A136 .nil))) (.low 138 (.one 137 A137 (.one 138 A138 .nil)) (.one 139 A139 (.one 141 A141 (.one 147 A147 .nil))))) (.low 154 (.low 151 (.one 150 A150 (.one 151 A151 .nil)) (.one 152 A152 (.one 153 A153 (.one 154 A154 .nil)))) (.low 156 (.one 155 A155 (.one 156 A156 .nil)) (.one 157 A157 (.one 158 A158 (.one 159 A159 .nil)))))) (.low 173 (.low 168 (.low 164 (.one 163 A163 (.one 164 A164 .nil)) (.one 166 A166 (.one 167 A167 (.one 168 A168 .nil)))) (.low 170 (.one 169 A169 (.one 170 A170 .nil)) (.one 171 A171 (.one 172 A172 (.one 173 A173 .nil))))) (.low 178 (.low 175 (.one 174 A174 (.one 175 A175 .nil)) (.one 176 A176 (.one 177 A177 (.one 178 A178 .nil)))) (.low 180 (.one 179 A179 (.one 180 A180 .nil)) (.one 181 A181 (.one 182 A182 (.one 183 A183 .nil)))))))))
theorem TAB_ok : TabOK PROG TAB := (.low (.low (.low (.low (.low (.low (.one A3_ok (.one A4_ok .nil)) (.one A5_ok (.one A6_ok .nil))) (.low (.one A7_ok (.one A8_ok .nil)) (.one A9_ok (.one A10_ok (.one A11_ok .nil))))) (.low (.low (.one A12_ok (.one A13_ok .nil)) (.one A14_ok (.one A15_ok (.one A16_ok .nil)))) (.low (.one A17_ok (.one A18_ok .nil)) (.one A19_ok (.one A20_ok (.one A21_ok .nil)))))) (.low (.low (.low (.one A22_ok (.one A23_ok .nil)) (.one A24_ok (.one A25_ok .nil))) (.low (.one A27_ok (.one A28_ok .nil)) (.one A29_ok (.one A30_ok (.one A31_ok .nil))))) (.low (.low (.one A32_ok (.one A33_ok .nil)) (.one A34_ok (.one A35_ok (.one A36_ok .nil)))) (.low (.one A37_ok (.one A38_ok .nil)) (.one A39_ok (.one A40_ok (.one A41_ok .nil))))))) (.low (.low (.low (.low (.one A42_ok (.one A43_ok .nil)) (.one A44_ok (.one A45_ok .nil))) (.low (.one A46_ok (.one A47_ok .nil)) (.one A48_ok (.one A50_ok (.one A51_ok .nil))))) (.low (.low (.one A52_ok (.one A53_ok .nil)) (.one A54_ok (.one A55_ok (.one A56_ok .nil)))) (.low (.one A57_ok (.one A58_ok .nil)) (.one A59_ok (.one A60_ok (.one A61_ok .nil)))))) (.low (.low (.low (.one A62_ok (.one A63_ok .nil)) (.one A64_ok (.one A65_ok (.one A66_ok .nil)))) (.low (.one A67_ok (.one A68_ok .nil)) (.one A69_ok (.one A70_ok (.one A71_ok .nil))))) (.low (.low (.one A72_ok (.one A73_ok .nil)) (.one A74_ok (.one A75_ok (.one A76_ok .nil)))) (.low (.one A77_ok (.one A78_ok .nil)) (.one A79_ok (.one A80_ok (.one A81_ok .nil)))))))) (.low (.low (.low (.low (.low (.one A82_ok (.one A83_ok .nil)) (.one A84_ok (.one A85_ok .nil))) (.low (.one A86_ok (.one A87_ok .nil)) (.one A88_ok (.one A89_ok (.one A90_ok .nil))))) (.low (.low (.one A93_ok (.one A94_ok .nil)) (.one A95_ok (.one A96_ok (.one A97_ok .nil)))) (.low (.one A98_ok (.one A99_ok .nil)) (.one A100_ok (.one A101_ok (.one A102_ok .nil)))))) (.low (.low (.low (.one A103_ok (.one A104_ok .nil)) (.one A105_ok (.one A106_ok (.one A108_ok .nil)))) (.low (.one A109_ok (.one A110_ok .nil)) (.one A111_ok (.one A112_ok (.one A113_ok .nil))))) (.low (.low (.one A114_ok (.one A115_ok .nil)) (.one A116_ok (.one A117_ok (.one A118_ok .nil)))) (.low (.one A119_ok (.one A120_ok .nil)) (.one A121_ok (.one A122_ok (.one A129_ok .nil))))))) (.low (.low (.low (.low (.one A133_ok (.one A134_ok .nil)) (.one A135_ok (.one A136_ok .nil))) (.low (.one A137_ok (.one A138_ok .nil)) (.one A139_ok (.one A141_ok (.one A147_ok .nil))))) (.low (.low (.one A150_ok (.one A151_ok .nil)) (.one A152_ok (.one A153_ok (.one A154_ok .nil)))) (.low (.one A155_ok (.one A156_ok .nil)) (.one A157_ok (.one A158_ok (.one A159_ok .nil)))))) (.low (.low (.low (.one A163_ok (.one A164_ok .nil)) (.one A166_ok (.one A167_ok (.one A168_ok .nil)))) (.low (.one A169_ok (.one A170_ok .nil)) (.one A171_ok (.one A172_ok (.one A173_ok .nil))))) (.low (.low (.one A174_ok (.one A175_ok .nil)) (.one A176_ok (.one A177_ok (.one A178_ok .nil)))) (.low (.one A179_ok (.one A180_ok .nil)) (.one A181_ok (.one A182_ok (.one A183_ok .nil)))))))))

end Go.Pg
