/- The trees of the functions that the law reaches, written out by program; each is shown to be the function's own; then their table. -/
import Derived.Test.YtlafmapnfbefiaaGreatDoorProg
import Derived.Test.YtlafmapnfbefiaaGreatDoorTSkA
import Derived.Test.YtlafmapnfbefiaaGreatDoorTSkB
import Derived.KernelRfl
import Derived.Test.YtlafmapnfbefiaaGreatDoorPg3
namespace Go.Pg
open Go.Proofs
set_option linter.unusedVariables false
set_option maxRecDepth 100000
noncomputable def A4 (args : List Value) : Option Pg := some (progOf PROG false 4 args)
theorem A4_ok : ∀ args p, A4 args = some p → progOf PROG false 4 args = p := fun args p h => Option.some.inj h
noncomputable def A9 : List Value → Option Pg
  | [] => some (T9)
  | _ => none
theorem A9_ok : ∀ args p, A9 args = some p → progOf PROG false 9 args = p := by
  intro args p h
  unfold A9 at h
  split at h
  · cases h; exact T9_eq 
  · cases h
noncomputable def A10 : List Value → Option Pg
  | [(.agg c0), (.slice p6 n7 n8)] => (match c0.toList with
    | [(.slice p0 n1 n2), (.slice p3 n4 n5)] => some (T10 p0 n1 n2 p3 n4 n5 p6 n7 n8)
    | _ => none)
  | _ => none
theorem A10_ok : ∀ args p, A10 args = some p → progOf PROG false 10 args = p := by
  intro args p h
  unfold A10 at h
  split at h
  · split at h
    · rename_i e0
      have f0 := agg_of e0
      subst f0
      cases h
      exact T10_eq _ _ _ _ _ _ _ _ _
    · cases h
  · cases h
noncomputable def A11 : List Value → Option Pg
  | [(.string s0)] => some (T11 s0)
  | _ => none
theorem A11_ok : ∀ args p, A11 args = some p → progOf PROG false 11 args = p := by
  intro args p h
  unfold A11 at h
  split at h
  · cases h; exact T11_eq _
  · cases h
noncomputable def A12 : List Value → Option Pg
  | [(.string s0), (.int .i64 i1), (.int .i64 i2), (.slice p3 n4 n5), (.slice p6 n7 n8)] => some (T12 s0 i1 i2 p3 n4 n5 p6 n7 n8)
  | _ => none
theorem A12_ok : ∀ args p, A12 args = some p → progOf PROG false 12 args = p := by
  intro args p h
  unfold A12 at h
  split at h
  · cases h; exact T12_eq _ _ _ _ _ _ _ _ _
  · cases h
noncomputable def A14 : List Value → Option Pg
  | [(.agg c0)] => (match c0.toList with
    | [(.slice p0 n1 n2), (.slice p3 n4 n5)] => some (T14 p0 n1 n2 p3 n4 n5)
    | _ => none)
  | _ => none
theorem A14_ok : ∀ args p, A14 args = some p → progOf PROG false 14 args = p := by
  intro args p h
  unfold A14 at h
  split at h
  · split at h
    · rename_i e0
      have f0 := agg_of e0
      subst f0
      cases h
      exact T14_eq _ _ _ _ _ _
    · cases h
  · cases h
noncomputable def A18 : List Value → Option Pg
  | [(.string s0), (.slice p1 n2 n3)] => some (T18 s0 p1 n2 n3)
  | _ => none
theorem A18_ok : ∀ args p, A18 args = some p → progOf PROG false 18 args = p := by
  intro args p h
  unfold A18 at h
  split at h
  · cases h; exact T18_eq _ _ _ _
  · cases h
noncomputable def A19 : List Value → Option Pg
  | [(.pointer p0)] => some (T19 p0)
  | _ => none
theorem A19_ok : ∀ args p, A19 args = some p → progOf PROG false 19 args = p := by
  intro args p h
  unfold A19 at h
  split at h
  · cases h; exact T19_eq _
  · cases h
noncomputable def A20 : List Value → Option Pg
  | [(.pointer p0)] => some (T20 p0)
  | _ => none
theorem A20_ok : ∀ args p, A20 args = some p → progOf PROG false 20 args = p := by
  intro args p h
  unfold A20 at h
  split at h
  · cases h; exact T20_eq _
  · cases h
noncomputable def A21 : List Value → Option Pg
  | [(.pointer p0)] => some (T21 p0)
  | _ => none
theorem A21_ok : ∀ args p, A21 args = some p → progOf PROG false 21 args = p := by
  intro args p h
  unfold A21 at h
  split at h
  · cases h; exact T21_eq _
  · cases h
noncomputable def A22 : List Value → Option Pg
  | [(.int .i64 i0)] => some (T22 i0)
  | _ => none
theorem A22_ok : ∀ args p, A22 args = some p → progOf PROG false 22 args = p := by
  intro args p h
  unfold A22 at h
  split at h
  · cases h; exact T22_eq _
  · cases h
noncomputable def A23 : List Value → Option Pg
  | [(.int .i64 i0)] => some (T23 i0)
  | _ => none
theorem A23_ok : ∀ args p, A23 args = some p → progOf PROG false 23 args = p := by
  intro args p h
  unfold A23 at h
  split at h
  · cases h; exact T23_eq _
  · cases h
noncomputable def A24 : List Value → Option Pg
  | [(.slice p0 n1 n2), v3] => some (T24 p0 n1 n2 v3)
  | _ => none
theorem A24_ok : ∀ args p, A24 args = some p → progOf PROG false 24 args = p := by
  intro args p h
  unfold A24 at h
  split at h
  · cases h; exact T24_eq _ _ _ _
  · cases h
noncomputable def A25 : List Value → Option Pg
  | [(.slice p0 n1 n2)] => some (T25 p0 n1 n2)
  | _ => none
theorem A25_ok : ∀ args p, A25 args = some p → progOf PROG false 25 args = p := by
  intro args p h
  unfold A25 at h
  split at h
  · cases h; exact T25_eq _ _ _
  · cases h
noncomputable def A26 : List Value → Option Pg
  | [(.string s0)] => some (T26 s0)
  | _ => none
theorem A26_ok : ∀ args p, A26 args = some p → progOf PROG false 26 args = p := by
  intro args p h
  unfold A26 at h
  split at h
  · cases h; exact T26_eq _
  · cases h
noncomputable def A27 : List Value → Option Pg
  | [(.pointer p0)] => some (T27 p0)
  | _ => none
theorem A27_ok : ∀ args p, A27 args = some p → progOf PROG false 27 args = p := by
  intro args p h
  unfold A27 at h
  split at h
  · cases h; exact T27_eq _
  · cases h
noncomputable def A28 : List Value → Option Pg
  | [(.slice p0 n1 n2)] => some (T28 p0 n1 n2)
  | _ => none
theorem A28_ok : ∀ args p, A28 args = some p → progOf PROG false 28 args = p := by
  intro args p h
  unfold A28 at h
  split at h
  · cases h; exact T28_eq _ _ _
  · cases h
noncomputable def A29 : List Value → Option Pg
  | [(.pointer p0), (.bool b1), (.int .i64 i2)] => some (T29 p0 b1 i2)
  | _ => none
theorem A29_ok : ∀ args p, A29 args = some p → progOf PROG false 29 args = p := by
  intro args p h
  unfold A29 at h
  split at h
  · cases h; exact T29_eq _ _ _
  · cases h
noncomputable def A30 : List Value → Option Pg
  | [(.int .i64 i0)] => some (T30 i0)
  | _ => none
theorem A30_ok : ∀ args p, A30 args = some p → progOf PROG false 30 args = p := by
  intro args p h
  unfold A30 at h
  split at h
  · cases h; exact T30_eq _
  · cases h
noncomputable def A31 : List Value → Option Pg
  | [(.slice p0 n1 n2)] => some (T31 p0 n1 n2)
  | _ => none
theorem A31_ok : ∀ args p, A31 args = some p → progOf PROG false 31 args = p := by
  intro args p h
  unfold A31 at h
  split at h
  · cases h; exact T31_eq _ _ _
  · cases h
noncomputable def A32 : List Value → Option Pg
  | [(.agg c0), (.int .i64 i6)] => (match c0.toList with
    | [(.slice p0 n1 n2), (.slice p3 n4 n5)] => some (T32 p0 n1 n2 p3 n4 n5 i6)
    | _ => none)
  | _ => none
theorem A32_ok : ∀ args p, A32 args = some p → progOf PROG false 32 args = p := by
  intro args p h
  unfold A32 at h
  split at h
  · split at h
    · rename_i e0
      have f0 := agg_of e0
      subst f0
      cases h
      exact T32_eq _ _ _ _ _ _ _
    · cases h
  · cases h
noncomputable def A33 : List Value → Option Pg
  | [(.int .i64 i0)] => some (T33 i0)
  | _ => none
theorem A33_ok : ∀ args p, A33 args = some p → progOf PROG false 33 args = p := by
  intro args p h
  unfold A33 at h
  split at h
  · cases h; exact T33_eq _
  · cases h
noncomputable def A40 : List Value → Option Pg
  | [(.pointer p0), (.int .i64 i1)] => some (T40 p0 i1)
  | _ => none
theorem A40_ok : ∀ args p, A40 args = some p → progOf PROG false 40 args = p := by
  intro args p h
  unfold A40 at h
  split at h
  · cases h; exact T40_eq _ _
  · cases h
noncomputable def A41 : List Value → Option Pg
  | [(.slice p0 n1 n2), v3] => some (T41 p0 n1 n2 v3)
  | _ => none
theorem A41_ok : ∀ args p, A41 args = some p → progOf PROG false 41 args = p := by
  intro args p h
  unfold A41 at h
  split at h
  · cases h; exact T41_eq _ _ _ _
  · cases h
noncomputable def A42 : List Value → Option Pg
  | [(.string s0)] => some (T42 s0)
  | _ => none
theorem A42_ok : ∀ args p, A42 args = some p → progOf PROG false 42 args = p := by
  intro args p h
  unfold A42 at h
  split at h
  · cases h; exact T42_eq _
  · cases h
noncomputable def A43 : List Value → Option Pg
  | [(.pointer p0)] => some (T43 p0)
  | _ => none
theorem A43_ok : ∀ args p, A43 args = some p → progOf PROG false 43 args = p := by
  intro args p h
  unfold A43 at h
  split at h
  · cases h; exact T43_eq _
  · cases h
noncomputable def A44 : List Value → Option Pg
  | [(.pointer p0)] => some (T44 p0)
  | _ => none
theorem A44_ok : ∀ args p, A44 args = some p → progOf PROG false 44 args = p := by
  intro args p h
  unfold A44 at h
  split at h
  · cases h; exact T44_eq _
  · cases h
noncomputable def A45 : List Value → Option Pg
  | [(.pointer p0)] => some (T45 p0)
  | _ => none
theorem A45_ok : ∀ args p, A45 args = some p → progOf PROG false 45 args = p := by
  intro args p h
  unfold A45 at h
  split at h
  · cases h; exact T45_eq _
  · cases h
noncomputable def A46 : List Value → Option Pg
  | [(.pointer p0), (.pointer p1), (.int .i64 i2)] => some (T46 p0 p1 i2)
  | _ => none
theorem A46_ok : ∀ args p, A46 args = some p → progOf PROG false 46 args = p := by
  intro args p h
  unfold A46 at h
  split at h
  · cases h; exact T46_eq _ _ _
  · cases h
noncomputable def A47 : List Value → Option Pg
  | [(.agg c0)] => (match c0.toList with
    | [(.slice p0 n1 n2), (.slice p3 n4 n5)] => some (T47 p0 n1 n2 p3 n4 n5)
    | _ => none)
  | _ => none
theorem A47_ok : ∀ args p, A47 args = some p → progOf PROG false 47 args = p := by
  intro args p h
  unfold A47 at h
  split at h
  · split at h
    · rename_i e0
      have f0 := agg_of e0
      subst f0
      cases h
      exact T47_eq _ _ _ _ _ _
    · cases h
  · cases h
noncomputable def A48 : List Value → Option Pg
  | [(.string s0)] => some (T48 s0)
  | _ => none
theorem A48_ok : ∀ args p, A48 args = some p → progOf PROG false 48 args = p := by
  intro args p h
  unfold A48 at h
  split at h
  · cases h; exact T48_eq _
  · cases h
noncomputable def A49 : List Value → Option Pg
  | [(.string s0)] => some (T49 s0)
  | _ => none
theorem A49_ok : ∀ args p, A49 args = some p → progOf PROG false 49 args = p := by
  intro args p h
  unfold A49 at h
  split at h
  · cases h; exact T49_eq _
  · cases h
noncomputable def A50 : List Value → Option Pg
  | [(.string s0)] => some (T50 s0)
  | _ => none
theorem A50_ok : ∀ args p, A50 args = some p → progOf PROG false 50 args = p := by
  intro args p h
  unfold A50 at h
  split at h
  · cases h; exact T50_eq _
  · cases h
noncomputable def A51 : List Value → Option Pg
  | [(.string s0), (.pointer (some a1))] => some (T51 s0 a1)
  | _ => none
theorem A51_ok : ∀ args p, A51 args = some p → progOf PROG false 51 args = p := by
  intro args p h
  unfold A51 at h
  split at h
  · cases h; exact T51_eq _ _
  · cases h
noncomputable def A52 : List Value → Option Pg
  | [(.slice p0 n1 n2), (.string s3)] => some (T52 p0 n1 n2 s3)
  | _ => none
theorem A52_ok : ∀ args p, A52 args = some p → progOf PROG false 52 args = p := by
  intro args p h
  unfold A52 at h
  split at h
  · cases h; exact T52_eq _ _ _ _
  · cases h
noncomputable def A53 : List Value → Option Pg
  | [(.string s0), (.pointer (some a1))] => some (T53 s0 a1)
  | _ => none
theorem A53_ok : ∀ args p, A53 args = some p → progOf PROG false 53 args = p := by
  intro args p h
  unfold A53 at h
  split at h
  · cases h; exact T53_eq _ _
  · cases h
noncomputable def A54 : List Value → Option Pg
  | [(.slice p0 n1 n2), v3] => some (T54 p0 n1 n2 v3)
  | _ => none
theorem A54_ok : ∀ args p, A54 args = some p → progOf PROG false 54 args = p := by
  intro args p h
  unfold A54 at h
  split at h
  · cases h; exact T54_eq _ _ _ _
  · cases h
noncomputable def A55 : List Value → Option Pg
  | [(.agg c0), (.agg c1)] => (match c0.toList with
    | [(.slice p0 n1 n2), (.slice p3 n4 n5)] => (match c1.toList with
    | [(.int .i64 i6), (.int .i64 i7), (.string s8), (.string s9), (.slice p10 n11 n12), (.int .i64 i13), (.int .i64 i14)] => some (T55 p0 n1 n2 p3 n4 n5 i6 i7 s8 s9 p10 n11 n12 i13 i14)
    | _ => none)
    | _ => none)
  | _ => none
theorem A55_ok : ∀ args p, A55 args = some p → progOf PROG false 55 args = p := by
  intro args p h
  unfold A55 at h
  split at h
  · split at h
    · split at h
      · rename_i e0 d1 x1_0 x1_1 x1_2 x1_3 x1_4 x1_5 x1_6 x1_7 x1_8 e1
        have f0 := agg_of e0
        subst f0
        have f1 := agg_of e1
        subst f1
        cases h
        exact T55_eq _ _ _ _ _ _ _ _ _ _ _ _ _ _ _
      · cases h
    · cases h
  · cases h
noncomputable def A58 : List Value → Option Pg
  | [(.agg c0), (.string s6)] => (match c0.toList with
    | [(.slice p0 n1 n2), (.slice p3 n4 n5)] => some (T58 p0 n1 n2 p3 n4 n5 s6)
    | _ => none)
  | _ => none
theorem A58_ok : ∀ args p, A58 args = some p → progOf PROG false 58 args = p := by
  intro args p h
  unfold A58 at h
  split at h
  · split at h
    · rename_i e0
      have f0 := agg_of e0
      subst f0
      cases h
      exact T58_eq _ _ _ _ _ _ _
    · cases h
  · cases h
noncomputable def A59 : List Value → Option Pg
  | [(.pointer p0)] => some (T59 p0)
  | _ => none
theorem A59_ok : ∀ args p, A59 args = some p → progOf PROG false 59 args = p := by
  intro args p h
  unfold A59 at h
  split at h
  · cases h; exact T59_eq _
  · cases h
noncomputable def A60 : List Value → Option Pg
  | [(.string s0)] => some (T60 s0)
  | _ => none
theorem A60_ok : ∀ args p, A60 args = some p → progOf PROG false 60 args = p := by
  intro args p h
  unfold A60 at h
  split at h
  · cases h; exact T60_eq _
  · cases h
noncomputable def A61 : List Value → Option Pg
  | [(.int .i32 i0)] => some (T61 i0)
  | _ => none
theorem A61_ok : ∀ args p, A61 args = some p → progOf PROG false 61 args = p := by
  intro args p h
  unfold A61 at h
  split at h
  · cases h; exact T61_eq _
  · cases h
noncomputable def A62 : List Value → Option Pg
  | [(.string s0), (.int .i64 i1)] => some (T62 s0 i1)
  | _ => none
theorem A62_ok : ∀ args p, A62 args = some p → progOf PROG false 62 args = p := by
  intro args p h
  unfold A62 at h
  split at h
  · cases h; exact T62_eq _ _
  · cases h
noncomputable def A63 : List Value → Option Pg
  | [(.string s0), (.int .i64 i1)] => some (T63 s0 i1)
  | _ => none
theorem A63_ok : ∀ args p, A63 args = some p → progOf PROG false 63 args = p := by
  intro args p h
  unfold A63 at h
  split at h
  · cases h; exact T63_eq _ _
  · cases h
noncomputable def A64 : List Value → Option Pg
  | [(.pointer p0), (.string s1)] => some (T64 p0 s1)
  | _ => none
theorem A64_ok : ∀ args p, A64 args = some p → progOf PROG false 64 args = p := by
  intro args p h
  unfold A64 at h
  split at h
  · cases h; exact T64_eq _ _
  · cases h
noncomputable def A65 : List Value → Option Pg
  | [(.pointer p0), (.int .i64 i1)] => some (T65 p0 i1)
  | _ => none
theorem A65_ok : ∀ args p, A65 args = some p → progOf PROG false 65 args = p := by
  intro args p h
  unfold A65 at h
  split at h
  · cases h; exact T65_eq _ _
  · cases h
noncomputable def A66 : List Value → Option Pg
  | [(.pointer p0), (.string s1)] => some (T66 p0 s1)
  | _ => none
theorem A66_ok : ∀ args p, A66 args = some p → progOf PROG false 66 args = p := by
  intro args p h
  unfold A66 at h
  split at h
  · cases h; exact T66_eq _ _
  · cases h
noncomputable def A67 : List Value → Option Pg
  | [(.pointer p0)] => some (T67 p0)
  | _ => none
theorem A67_ok : ∀ args p, A67 args = some p → progOf PROG false 67 args = p := by
  intro args p h
  unfold A67 at h
  split at h
  · cases h; exact T67_eq _
  · cases h
noncomputable def A68 : List Value → Option Pg
  | [(.int .i64 i0), (.string s1), (.pointer p2), (.pointer p3)] => some (T68 i0 s1 p2 p3)
  | _ => none
theorem A68_ok : ∀ args p, A68 args = some p → progOf PROG false 68 args = p := by
  intro args p h
  unfold A68 at h
  split at h
  · cases h; exact T68_eq _ _ _ _
  · cases h
noncomputable def A69 : List Value → Option Pg
  | [(.agg c0)] => (match c0.toList with
    | [(.slice p0 n1 n2), (.slice p3 n4 n5)] => some (T69 p0 n1 n2 p3 n4 n5)
    | _ => none)
  | _ => none
theorem A69_ok : ∀ args p, A69 args = some p → progOf PROG false 69 args = p := by
  intro args p h
  unfold A69 at h
  split at h
  · split at h
    · rename_i e0
      have f0 := agg_of e0
      subst f0
      cases h
      exact T69_eq _ _ _ _ _ _
    · cases h
  · cases h
noncomputable def A70 : List Value → Option Pg
  | [(.agg c0), (.int .i64 i6), (.bool b7), (.int .i64 i8)] => (match c0.toList with
    | [(.slice p0 n1 n2), (.slice p3 n4 n5)] => some (T70 p0 n1 n2 p3 n4 n5 i6 b7 i8)
    | _ => none)
  | _ => none
theorem A70_ok : ∀ args p, A70 args = some p → progOf PROG false 70 args = p := by
  intro args p h
  unfold A70 at h
  split at h
  · split at h
    · rename_i e0
      have f0 := agg_of e0
      subst f0
      cases h
      exact T70_eq _ _ _ _ _ _ _ _ _
    · cases h
  · cases h
noncomputable def A71 : List Value → Option Pg
  | [(.string s0), (.int .i64 i1)] => some (T71 s0 i1)
  | _ => none
theorem A71_ok : ∀ args p, A71 args = some p → progOf PROG false 71 args = p := by
  intro args p h
  unfold A71 at h
  split at h
  · cases h; exact T71_eq _ _
  · cases h
noncomputable def A72 : List Value → Option Pg
  | [(.slice p0 n1 n2), (.string s3)] => some (T72 p0 n1 n2 s3)
  | _ => none
theorem A72_ok : ∀ args p, A72 args = some p → progOf PROG false 72 args = p := by
  intro args p h
  unfold A72 at h
  split at h
  · cases h; exact T72_eq _ _ _ _
  · cases h
noncomputable def A73 : List Value → Option Pg
  | [(.slice p0 n1 n2), v3] => some (T73 p0 n1 n2 v3)
  | _ => none
theorem A73_ok : ∀ args p, A73 args = some p → progOf PROG false 73 args = p := by
  intro args p h
  unfold A73 at h
  split at h
  · cases h; exact T73_eq _ _ _ _
  · cases h
noncomputable def A74 : List Value → Option Pg
  | [(.agg c0)] => (match c0.toList with
    | [(.int .i64 i0), (.int .i64 i1), (.string s2), (.string s3), (.slice p4 n5 n6), (.int .i64 i7), (.int .i64 i8)] => some (T74 i0 i1 s2 s3 p4 n5 n6 i7 i8)
    | _ => none)
  | _ => none
theorem A74_ok : ∀ args p, A74 args = some p → progOf PROG false 74 args = p := by
  intro args p h
  unfold A74 at h
  split at h
  · split at h
    · rename_i e0
      have f0 := agg_of e0
      subst f0
      cases h
      exact T74_eq _ _ _ _ _ _ _ _ _
    · cases h
  · cases h
noncomputable def A75 : List Value → Option Pg
  | [(.agg c0)] => (match c0.toList with
    | [(.int .i64 i0), (.int .i64 i1), (.string s2), (.string s3), (.slice p4 n5 n6), (.int .i64 i7), (.int .i64 i8)] => some (T75 i0 i1 s2 s3 p4 n5 n6 i7 i8)
    | _ => none)
  | _ => none
theorem A75_ok : ∀ args p, A75 args = some p → progOf PROG false 75 args = p := by
  intro args p h
  unfold A75 at h
  split at h
  · split at h
    · rename_i e0
      have f0 := agg_of e0
      subst f0
      cases h
      exact T75_eq _ _ _ _ _ _ _ _ _
    · cases h
  · cases h
noncomputable def A76 : List Value → Option Pg
  | [(.int .i64 i0)] => some (T76 i0)
  | _ => none
theorem A76_ok : ∀ args p, A76 args = some p → progOf PROG false 76 args = p := by
  intro args p h
  unfold A76 at h
  split at h
  · cases h; exact T76_eq _
  · cases h
noncomputable def A77 : List Value → Option Pg
  | [(.pointer p0)] => some (T77 p0)
  | _ => none
theorem A77_ok : ∀ args p, A77 args = some p → progOf PROG false 77 args = p := by
  intro args p h
  unfold A77 at h
  split at h
  · cases h; exact T77_eq _
  · cases h
noncomputable def A78 : List Value → Option Pg
  | [(.pointer p0), (.agg c0)] => (match c0.toList with
    | [(.int .i64 i1), (.int .i64 i2), (.string s3), (.slice p4 n5 n6), (.int .i64 i7), (.pointer p8), (.int .i64 i9)] => some (T78 p0 i1 i2 s3 p4 n5 n6 i7 p8 i9)
    | _ => none)
  | _ => none
theorem A78_ok : ∀ args p, A78 args = some p → progOf PROG false 78 args = p := by
  intro args p h
  unfold A78 at h
  split at h
  · split at h
    · rename_i e0
      have f0 := agg_of e0
      subst f0
      cases h
      exact T78_eq _ _ _ _ _ _ _ _ _ _
    · cases h
  · cases h
noncomputable def A79 : List Value → Option Pg
  | [(.pointer p0)] => some (T79 p0)
  | _ => none
theorem A79_ok : ∀ args p, A79 args = some p → progOf PROG false 79 args = p := by
  intro args p h
  unfold A79 at h
  split at h
  · cases h; exact T79_eq _
  · cases h
noncomputable def A81 : List Value → Option Pg
  | [(.string s0)] => some (T81 s0)
  | _ => none
theorem A81_ok : ∀ args p, A81 args = some p → progOf PROG false 81 args = p := by
  intro args p h
  unfold A81 at h
  split at h
  · cases h; exact T81_eq _
  · cases h
noncomputable def A83 : List Value → Option Pg
  | [(.string s0)] => some (T83 s0)
  | _ => none
theorem A83_ok : ∀ args p, A83 args = some p → progOf PROG false 83 args = p := by
  intro args p h
  unfold A83 at h
  split at h
  · cases h; exact T83_eq _
  · cases h
noncomputable def A84 : List Value → Option Pg
  | [(.pointer p0), (.string s1)] => some (T84 p0 s1)
  | _ => none
theorem A84_ok : ∀ args p, A84 args = some p → progOf PROG false 84 args = p := by
  intro args p h
  unfold A84 at h
  split at h
  · cases h; exact T84_eq _ _
  · cases h
noncomputable def A85 : List Value → Option Pg
  | [(.pointer p0)] => some (T85 p0)
  | _ => none
theorem A85_ok : ∀ args p, A85 args = some p → progOf PROG false 85 args = p := by
  intro args p h
  unfold A85 at h
  split at h
  · cases h; exact T85_eq _
  · cases h
noncomputable def A86 : List Value → Option Pg
  | [(.string s0)] => some (T86 s0)
  | _ => none
theorem A86_ok : ∀ args p, A86 args = some p → progOf PROG false 86 args = p := by
  intro args p h
  unfold A86 at h
  split at h
  · cases h; exact T86_eq _
  · cases h
noncomputable def A87 : List Value → Option Pg
  | [(.string s0)] => some (T87 s0)
  | _ => none
theorem A87_ok : ∀ args p, A87 args = some p → progOf PROG false 87 args = p := by
  intro args p h
  unfold A87 at h
  split at h
  · cases h; exact T87_eq _
  · cases h
noncomputable def A88 : List Value → Option Pg
  | [(.slice p0 n1 n2)] => some (T88 p0 n1 n2)
  | _ => none
theorem A88_ok : ∀ args p, A88 args = some p → progOf PROG false 88 args = p := by
  intro args p h
  unfold A88 at h
  split at h
  · cases h; exact T88_eq _ _ _
  · cases h
noncomputable def A89 : List Value → Option Pg
  | [(.slice p0 n1 n2), (.string s3)] => some (T89 p0 n1 n2 s3)
  | _ => none
theorem A89_ok : ∀ args p, A89 args = some p → progOf PROG false 89 args = p := by
  intro args p h
  unfold A89 at h
  split at h
  · cases h; exact T89_eq _ _ _ _
  · cases h
noncomputable def A90 : List Value → Option Pg
  | [(.agg c0)] => (match c0.toList with
    | [(.int .i64 i0), (.int .i64 i1), (.string s2), (.string s3), (.slice p4 n5 n6), (.int .i64 i7), (.int .i64 i8)] => some (T90 i0 i1 s2 s3 p4 n5 n6 i7 i8)
    | _ => none)
  | _ => none
theorem A90_ok : ∀ args p, A90 args = some p → progOf PROG false 90 args = p := by
  intro args p h
  unfold A90 at h
  split at h
  · split at h
    · rename_i e0
      have f0 := agg_of e0
      subst f0
      cases h
      exact T90_eq _ _ _ _ _ _ _ _ _
    · cases h
  · cases h
noncomputable def A91 : List Value → Option Pg
  | [(.agg c0), (.string s6)] => (match c0.toList with
    | [(.slice p0 n1 n2), (.slice p3 n4 n5)] => some (T91 p0 n1 n2 p3 n4 n5 s6)
    | _ => none)
  | _ => none
theorem A91_ok : ∀ args p, A91 args = some p → progOf PROG false 91 args = p := by
  intro args p h
  unfold A91 at h
  split at h
  · split at h
    · rename_i e0
      have f0 := agg_of e0
      subst f0
      cases h
      exact T91_eq _ _ _ _ _ _ _
    · cases h
  · cases h
noncomputable def A92 : List Value → Option Pg
  | [(.agg c0), (.int .i64 i6)] => (match c0.toList with
    | [(.slice p0 n1 n2), (.slice p3 n4 n5)] => some (T92 p0 n1 n2 p3 n4 n5 i6)
    | _ => none)
  | _ => none
theorem A92_ok : ∀ args p, A92 args = some p → progOf PROG false 92 args = p := by
  intro args p h
  unfold A92 at h
  split at h
  · split at h
    · rename_i e0
      have f0 := agg_of e0
      subst f0
      cases h
      exact T92_eq _ _ _ _ _ _ _
    · cases h
  · cases h
noncomputable def A93 : List Value → Option Pg
  | [(.string s0)] => some (T93 s0)
  | _ => none
theorem A93_ok : ∀ args p, A93 args = some p → progOf PROG false 93 args = p := by
  intro args p h
  unfold A93 at h
  split at h
  · cases h; exact T93_eq _
  · cases h
noncomputable def A94 : List Value → Option Pg
  | [(.int .i64 i0)] => some (T94 i0)
  | _ => none
theorem A94_ok : ∀ args p, A94 args = some p → progOf PROG false 94 args = p := by
  intro args p h
  unfold A94 at h
  split at h
  · cases h; exact T94_eq _
  · cases h
noncomputable def A95 : List Value → Option Pg
  | [(.pointer p0), (.agg c0)] => (match c0.toList with
    | [(.int .i64 i1), (.int .i64 i2), (.string s3), (.slice p4 n5 n6), (.int .i64 i7), (.pointer p8), (.int .i64 i9)] => some (T95 p0 i1 i2 s3 p4 n5 n6 i7 p8 i9)
    | _ => none)
  | _ => none
theorem A95_ok : ∀ args p, A95 args = some p → progOf PROG false 95 args = p := by
  intro args p h
  unfold A95 at h
  split at h
  · split at h
    · rename_i e0
      have f0 := agg_of e0
      subst f0
      cases h
      exact T95_eq _ _ _ _ _ _ _ _ _ _
    · cases h
  · cases h
noncomputable def A96 : List Value → Option Pg
  | [(.slice p0 n1 n2)] => some (T96 p0 n1 n2)
  | _ => none
theorem A96_ok : ∀ args p, A96 args = some p → progOf PROG false 96 args = p := by
  intro args p h
  unfold A96 at h
  split at h
  · cases h; exact T96_eq _ _ _
  · cases h
noncomputable def A97 : List Value → Option Pg
  | [(.pointer p0), (.int .i64 i1), (.pointer p2)] => some (T97 p0 i1 p2)
  | _ => none
theorem A97_ok : ∀ args p, A97 args = some p → progOf PROG false 97 args = p := by
  intro args p h
  unfold A97 at h
  split at h
  · cases h; exact T97_eq _ _ _
  · cases h
noncomputable def A98 : List Value → Option Pg
  | [(.pointer p0), (.agg c0), (.pointer p10), (.agg c1)] => (match c0.toList with
    | [(.int .i64 i1), (.int .i64 i2), (.string s3), (.string s4), (.slice p5 n6 n7), (.int .i64 i8), (.int .i64 i9)] => (match c1.toList with
    | [(.int .i64 i11), (.int .i64 i12), (.string s13), (.slice p14 n15 n16), (.int .i64 i17), (.pointer p18), (.int .i64 i19)] => some (T98 p0 i1 i2 s3 s4 p5 n6 n7 i8 i9 p10 i11 i12 s13 p14 n15 n16 i17 p18 i19)
    | _ => none)
    | _ => none)
  | _ => none
theorem A98_ok : ∀ args p, A98 args = some p → progOf PROG false 98 args = p := by
  intro args p h
  unfold A98 at h
  split at h
  · split at h
    · split at h
      · rename_i e0 d1 x1_0 x1_1 x1_2 x1_3 x1_4 x1_5 x1_6 x1_7 x1_8 e1
        have f0 := agg_of e0
        subst f0
        have f1 := agg_of e1
        subst f1
        cases h
        exact T98_eq _ _ _ _ _ _ _ _ _ _ _ _ _ _ _ _ _ _ _ _
      · cases h
    · cases h
  · cases h
noncomputable def A99 : List Value → Option Pg
  | [(.pointer p0), (.agg c0), (.pointer p10), (.agg c1)] => (match c0.toList with
    | [(.int .i64 i1), (.int .i64 i2), (.string s3), (.string s4), (.slice p5 n6 n7), (.int .i64 i8), (.int .i64 i9)] => (match c1.toList with
    | [(.int .i64 i11), (.int .i64 i12), (.string s13), (.slice p14 n15 n16), (.int .i64 i17), (.pointer p18), (.int .i64 i19)] => some (T99 p0 i1 i2 s3 s4 p5 n6 n7 i8 i9 p10 i11 i12 s13 p14 n15 n16 i17 p18 i19)
    | _ => none)
    | _ => none)
  | _ => none
theorem A99_ok : ∀ args p, A99 args = some p → progOf PROG false 99 args = p := by
  intro args p h
  unfold A99 at h
  split at h
  · split at h
    · split at h
      · rename_i e0 d1 x1_0 x1_1 x1_2 x1_3 x1_4 x1_5 x1_6 x1_7 x1_8 e1
        have f0 := agg_of e0
        subst f0
        have f1 := agg_of e1
        subst f1
        cases h
        exact T99_eq _ _ _ _ _ _ _ _ _ _ _ _ _ _ _ _ _ _ _ _
      · cases h
    · cases h
  · cases h
noncomputable def A100 : List Value → Option Pg
  | [(.pointer p0), (.int .i64 i1), (.agg c0), (.slice p11 n12 n13)] => (match c0.toList with
    | [(.int .i64 i2), (.int .i64 i3), (.string s4), (.string s5), (.slice p6 n7 n8), (.int .i64 i9), (.int .i64 i10)] => some (T100 p0 i1 i2 i3 s4 s5 p6 n7 n8 i9 i10 p11 n12 n13)
    | _ => none)
  | _ => none
theorem A100_ok : ∀ args p, A100 args = some p → progOf PROG false 100 args = p := by
  intro args p h
  unfold A100 at h
  split at h
  · split at h
    · rename_i e0
      have f0 := agg_of e0
      subst f0
      cases h
      exact T100_eq _ _ _ _ _ _ _ _ _ _ _ _ _ _
    · cases h
  · cases h
noncomputable def A101 : List Value → Option Pg
  | [(.int .i64 i0)] => some (T101 i0)
  | _ => none
theorem A101_ok : ∀ args p, A101 args = some p → progOf PROG false 101 args = p := by
  intro args p h
  unfold A101 at h
  split at h
  · cases h; exact T101_eq _
  · cases h
noncomputable def A102 : List Value → Option Pg
  | [] => some (T102)
  | _ => none
theorem A102_ok : ∀ args p, A102 args = some p → progOf PROG false 102 args = p := by
  intro args p h
  unfold A102 at h
  split at h
  · cases h; exact T102_eq 
  · cases h
noncomputable def A103 : List Value → Option Pg
  | [(.pointer p0), (.string s1)] => some (T103 p0 s1)
  | _ => none
theorem A103_ok : ∀ args p, A103 args = some p → progOf PROG false 103 args = p := by
  intro args p h
  unfold A103 at h
  split at h
  · cases h; exact T103_eq _ _
  · cases h
noncomputable def A104 : List Value → Option Pg
  | [(.pointer p0)] => some (T104 p0)
  | _ => none
theorem A104_ok : ∀ args p, A104 args = some p → progOf PROG false 104 args = p := by
  intro args p h
  unfold A104 at h
  split at h
  · cases h; exact T104_eq _
  · cases h
noncomputable def A105 : List Value → Option Pg
  | [(.pointer p0)] => some (T105 p0)
  | _ => none
theorem A105_ok : ∀ args p, A105 args = some p → progOf PROG false 105 args = p := by
  intro args p h
  unfold A105 at h
  split at h
  · cases h; exact T105_eq _
  · cases h
noncomputable def A107 : List Value → Option Pg
  | [(.pointer p0)] => some (T107 p0)
  | _ => none
theorem A107_ok : ∀ args p, A107 args = some p → progOf PROG false 107 args = p := by
  intro args p h
  unfold A107 at h
  split at h
  · cases h; exact T107_eq _
  · cases h
noncomputable def A108 : List Value → Option Pg
  | [(.string s0)] => some (T108 s0)
  | _ => none
theorem A108_ok : ∀ args p, A108 args = some p → progOf PROG false 108 args = p := by
  intro args p h
  unfold A108 at h
  split at h
  · cases h; exact T108_eq _
  · cases h
noncomputable def A109 : List Value → Option Pg
  | [] => some (T109)
  | _ => none
theorem A109_ok : ∀ args p, A109 args = some p → progOf PROG false 109 args = p := by
  intro args p h
  unfold A109 at h
  split at h
  · cases h; exact T109_eq 
  · cases h
noncomputable def A110 : List Value → Option Pg
  | [(.string s0)] => some (T110 s0)
  | _ => none
theorem A110_ok : ∀ args p, A110 args = some p → progOf PROG false 110 args = p := by
  intro args p h
  unfold A110 at h
  split at h
  · cases h; exact T110_eq _
  · cases h
noncomputable def A111 : List Value → Option Pg
  | [(.int .i32 i0)] => some (T111 i0)
  | _ => none
theorem A111_ok : ∀ args p, A111 args = some p → progOf PROG false 111 args = p := by
  intro args p h
  unfold A111 at h
  split at h
  · cases h; exact T111_eq _
  · cases h
noncomputable def A112 : List Value → Option Pg
  | [(.string s0)] => some (T112 s0)
  | _ => none
theorem A112_ok : ∀ args p, A112 args = some p → progOf PROG false 112 args = p := by
  intro args p h
  unfold A112 at h
  split at h
  · cases h; exact T112_eq _
  · cases h
noncomputable def A113 : List Value → Option Pg
  | [(.string s0), v1] => some (T113 s0 v1)
  | _ => none
theorem A113_ok : ∀ args p, A113 args = some p → progOf PROG false 113 args = p := by
  intro args p h
  unfold A113 at h
  split at h
  · cases h; exact T113_eq _ _
  · cases h
noncomputable def A114 : List Value → Option Pg
  | [(.int .i32 i0)] => some (T114 i0)
  | _ => none
theorem A114_ok : ∀ args p, A114 args = some p → progOf PROG false 114 args = p := by
  intro args p h
  unfold A114 at h
  split at h
  · cases h; exact T114_eq _
  · cases h
noncomputable def A115 : List Value → Option Pg
  | [(.string s0)] => some (T115 s0)
  | _ => none
theorem A115_ok : ∀ args p, A115 args = some p → progOf PROG false 115 args = p := by
  intro args p h
  unfold A115 at h
  split at h
  · cases h; exact T115_eq _
  · cases h
noncomputable def A116 : List Value → Option Pg
  | [(.string s0)] => some (T116 s0)
  | _ => none
theorem A116_ok : ∀ args p, A116 args = some p → progOf PROG false 116 args = p := by
  intro args p h
  unfold A116 at h
  split at h
  · cases h; exact T116_eq _
  · cases h
noncomputable def A117 : List Value → Option Pg
  | [(.pointer p0), (.int .i64 i1), (.agg c0), (.pointer p11)] => (match c0.toList with
    | [(.int .i64 i2), (.int .i64 i3), (.string s4), (.slice p5 n6 n7), (.int .i64 i8), (.pointer p9), (.int .i64 i10)] => some (T117 p0 i1 i2 i3 s4 p5 n6 n7 i8 p9 i10 p11)
    | _ => none)
  | _ => none
theorem A117_ok : ∀ args p, A117 args = some p → progOf PROG false 117 args = p := by
  intro args p h
  unfold A117 at h
  split at h
  · split at h
    · rename_i e0
      have f0 := agg_of e0
      subst f0
      cases h
      exact T117_eq _ _ _ _ _ _ _ _ _ _ _ _
    · cases h
  · cases h
noncomputable def A118 : List Value → Option Pg
  | [(.pointer p0), (.int .i64 i1), (.agg c0), (.agg c1)] => (match c0.toList with
    | [(.int .i64 i2), (.int .i64 i3), (.string s4), (.slice p5 n6 n7), (.int .i64 i8), (.pointer p9), (.int .i64 i10)] => (match c1.toList with
    | [(.int .i64 i11), (.int .i64 i12), (.string s13), (.slice p14 n15 n16), (.int .i64 i17), (.pointer p18), (.int .i64 i19)] => some (T118 p0 i1 i2 i3 s4 p5 n6 n7 i8 p9 i10 i11 i12 s13 p14 n15 n16 i17 p18 i19)
    | _ => none)
    | _ => none)
  | _ => none
theorem A118_ok : ∀ args p, A118 args = some p → progOf PROG false 118 args = p := by
  intro args p h
  unfold A118 at h
  split at h
  · split at h
    · split at h
      · rename_i e0 d1 x1_0 x1_1 x1_2 x1_3 x1_4 x1_5 x1_6 x1_7 x1_8 e1
        have f0 := agg_of e0
        subst f0
        have f1 := agg_of e1
        subst f1
        cases h
        exact T118_eq _ _ _ _ _ _ _ _ _ _ _ _ _ _ _ _ _ _ _ _
      · cases h
    · cases h
  · cases h
noncomputable def A119 : List Value → Option Pg
  | [(.string s0), (.int .i64 i1), (.int .i64 i2)] => some (T119 s0 i1 i2)
  | _ => none
theorem A119_ok : ∀ args p, A119 args = some p → progOf PROG false 119 args = p := by
  intro args p h
  unfold A119 at h
  split at h
  · cases h; exact T119_eq _ _ _
  · cases h
noncomputable def A120 : List Value → Option Pg
  | [(.pointer p0), (.agg c0)] => (match c0.toList with
    | [(.int .i64 i1), (.int .i64 i2), (.string s3), (.slice p4 n5 n6), (.int .i64 i7), (.pointer p8), (.int .i64 i9)] => some (T120 p0 i1 i2 s3 p4 n5 n6 i7 p8 i9)
    | _ => none)
  | _ => none
theorem A120_ok : ∀ args p, A120 args = some p → progOf PROG false 120 args = p := by
  intro args p h
  unfold A120 at h
  split at h
  · split at h
    · rename_i e0
      have f0 := agg_of e0
      subst f0
      cases h
      exact T120_eq _ _ _ _ _ _ _ _ _ _
    · cases h
  · cases h
noncomputable def A121 : List Value → Option Pg
  | [(.pointer p0), (.agg c0), (.slice p10 n11 n12)] => (match c0.toList with
    | [(.int .i64 i1), (.int .i64 i2), (.string s3), (.string s4), (.slice p5 n6 n7), (.int .i64 i8), (.int .i64 i9)] => some (T121 p0 i1 i2 s3 s4 p5 n6 n7 i8 i9 p10 n11 n12)
    | _ => none)
  | _ => none
theorem A121_ok : ∀ args p, A121 args = some p → progOf PROG false 121 args = p := by
  intro args p h
  unfold A121 at h
  split at h
  · split at h
    · rename_i e0
      have f0 := agg_of e0
      subst f0
      cases h
      exact T121_eq _ _ _ _ _ _ _ _ _ _ _ _ _
    · cases h
  · cases h
noncomputable def A124 : List Value → Option Pg
  | [(.pointer p0)] => some (T124 p0)
  | _ => none
theorem A124_ok : ∀ args p, A124 args = some p → progOf PROG false 124 args = p := by
  intro args p h
  unfold A124 at h
  split at h
  · cases h; exact T124_eq _
  · cases h
noncomputable def A125 : List Value → Option Pg
  | [(.string s0)] => some (T125 s0)
  | _ => none
theorem A125_ok : ∀ args p, A125 args = some p → progOf PROG false 125 args = p := by
  intro args p h
  unfold A125 at h
  split at h
  · cases h; exact T125_eq _
  · cases h
noncomputable def A126 : List Value → Option Pg
  | [(.int .i32 i0)] => some (T126 i0)
  | _ => none
theorem A126_ok : ∀ args p, A126 args = some p → progOf PROG false 126 args = p := by
  intro args p h
  unfold A126 at h
  split at h
  · cases h; exact T126_eq _
  · cases h
noncomputable def A127 : List Value → Option Pg
  | [(.string s0)] => some (T127 s0)
  | _ => none
theorem A127_ok : ∀ args p, A127 args = some p → progOf PROG false 127 args = p := by
  intro args p h
  unfold A127 at h
  split at h
  · cases h; exact T127_eq _
  · cases h
noncomputable def A128 : List Value → Option Pg
  | [(.string s0)] => some (T128 s0)
  | _ => none
theorem A128_ok : ∀ args p, A128 args = some p → progOf PROG false 128 args = p := by
  intro args p h
  unfold A128 at h
  split at h
  · cases h; exact T128_eq _
  · cases h
noncomputable def A129 : List Value → Option Pg
  | [(.string s0), (.string s1)] => some (T129 s0 s1)
  | _ => none
theorem A129_ok : ∀ args p, A129 args = some p → progOf PROG false 129 args = p := by
  intro args p h
  unfold A129 at h
  split at h
  · cases h; exact T129_eq _ _
  · cases h
noncomputable def A130 : List Value → Option Pg
  | [(.bool b0)] => some (T130 b0)
  | _ => none
theorem A130_ok : ∀ args p, A130 args = some p → progOf PROG false 130 args = p := by
  intro args p h
  unfold A130 at h
  split at h
  · cases h; exact T130_eq _
  · cases h
noncomputable def A131 : List Value → Option Pg
  | [(.pointer p0)] => some (T131 p0)
  | _ => none
theorem A131_ok : ∀ args p, A131 args = some p → progOf PROG false 131 args = p := by
  intro args p h
  unfold A131 at h
  split at h
  · cases h; exact T131_eq _
  · cases h
noncomputable def A132 : List Value → Option Pg
  | [(.string s0), (.string s1)] => some (T132 s0 s1)
  | _ => none
theorem A132_ok : ∀ args p, A132 args = some p → progOf PROG false 132 args = p := by
  intro args p h
  unfold A132 at h
  split at h
  · cases h; exact T132_eq _ _
  · cases h
noncomputable def A133 : List Value → Option Pg
  | [(.pointer p0)] => some (T133 p0)
  | _ => none
theorem A133_ok : ∀ args p, A133 args = some p → progOf PROG false 133 args = p := by
  intro args p h
  unfold A133 at h
  split at h
  · cases h; exact T133_eq _
  · cases h
noncomputable def A134 : List Value → Option Pg
  | [(.pointer p0)] => some (T134 p0)
  | _ => none
theorem A134_ok : ∀ args p, A134 args = some p → progOf PROG false 134 args = p := by
  intro args p h
  unfold A134 at h
  split at h
  · cases h; exact T134_eq _
  · cases h
noncomputable def A135 : List Value → Option Pg
  | [(.pointer p0)] => some (T135 p0)
  | _ => none
theorem A135_ok : ∀ args p, A135 args = some p → progOf PROG false 135 args = p := by
  intro args p h
  unfold A135 at h
  split at h
  · cases h; exact T135_eq _
  · cases h
noncomputable def A136 : List Value → Option Pg
  | [] => some (T136)
  | _ => none
theorem A136_ok : ∀ args p, A136 args = some p → progOf PROG false 136 args = p := by
  intro args p h
  unfold A136 at h
  split at h
  · cases h; exact T136_eq 
  · cases h
noncomputable def A137 : List Value → Option Pg
  | [(.pointer p0), (.agg c0)] => (match c0.toList with
    | [(.int .i64 i1), (.int .i64 i2), (.string s3), (.string s4), (.slice p5 n6 n7), (.int .i64 i8), (.int .i64 i9)] => some (T137 p0 i1 i2 s3 s4 p5 n6 n7 i8 i9)
    | _ => none)
  | _ => none
theorem A137_ok : ∀ args p, A137 args = some p → progOf PROG false 137 args = p := by
  intro args p h
  unfold A137 at h
  split at h
  · split at h
    · rename_i e0
      have f0 := agg_of e0
      subst f0
      cases h
      exact T137_eq _ _ _ _ _ _ _ _ _ _
    · cases h
  · cases h
noncomputable def A138 : List Value → Option Pg
  | [(.string s0)] => some (T138 s0)
  | _ => none
theorem A138_ok : ∀ args p, A138 args = some p → progOf PROG false 138 args = p := by
  intro args p h
  unfold A138 at h
  split at h
  · cases h; exact T138_eq _
  · cases h
noncomputable def A139 : List Value → Option Pg
  | [(.pointer p0)] => some (T139 p0)
  | _ => none
theorem A139_ok : ∀ args p, A139 args = some p → progOf PROG false 139 args = p := by
  intro args p h
  unfold A139 at h
  split at h
  · cases h; exact T139_eq _
  · cases h
noncomputable def A140 : List Value → Option Pg
  | [(.pointer p0)] => some (T140 p0)
  | _ => none
theorem A140_ok : ∀ args p, A140 args = some p → progOf PROG false 140 args = p := by
  intro args p h
  unfold A140 at h
  split at h
  · cases h; exact T140_eq _
  · cases h
noncomputable def A141 : List Value → Option Pg
  | [(.pointer p0)] => some (T141 p0)
  | _ => none
theorem A141_ok : ∀ args p, A141 args = some p → progOf PROG false 141 args = p := by
  intro args p h
  unfold A141 at h
  split at h
  · cases h; exact T141_eq _
  · cases h
noncomputable def A142 : List Value → Option Pg
  | [(.pointer p0)] => some (T142 p0)
  | _ => none
theorem A142_ok : ∀ args p, A142 args = some p → progOf PROG false 142 args = p := by
  intro args p h
  unfold A142 at h
  split at h
  · cases h; exact T142_eq _
  · cases h
noncomputable def A143 : List Value → Option Pg
  | [(.pointer p0)] => some (T143 p0)
  | _ => none
theorem A143_ok : ∀ args p, A143 args = some p → progOf PROG false 143 args = p := by
  intro args p h
  unfold A143 at h
  split at h
  · cases h; exact T143_eq _
  · cases h
noncomputable def TAB : Tab := (.low 78 (.low 46 (.low 25 (.low 18 (.low 10 (.one 4 A4 (.one 9 A9 (.one 10 A10 .nil))) (.low 12 (.one 11 A11 (.one 12 A12 .nil)) (.one 14 A14 (.one 18 A18 .nil)))) (.low 21 (.one 19 A19 (.one 20 A20 (.one 21 A21 .nil))) (.low 23 (.one 22 A22 (.one 23 A23 .nil)) (.one 24 A24 (.one 25 A25 .nil))))) (.low 32 (.low 28 (.one 26 A26 (.one 27 A27 (.one 28 A28 .nil))) (.low 30 (.one 29 A29 (.one 30 A30 .nil)) (.one 31 A31 (.one 32 A32 .nil)))) (.low 42 (.low 40 (.one 33 A33 (.one 40 A40 .nil)) (.one 41 A41 (.one 42 A42 .nil))) (.low 44 (.one 43 A43 (.one 44 A44 .nil)) (.one 45 A45 (.one 46 A46 .nil)))))) (.low 63 (.low 53 (.low 49 (.one 47 A47 (.one 48 A48 (.one 49 A49 .nil))) (.low 51 (.one 50 A50 (.one 51 A51 .nil)) (.one 52 A52 (.one 53 A53 .nil)))) (.low 59 (.low 55 (.one 54 A54 (.one 55 A55 .nil)) (.one 58 A58 (.one 59 A59 .nil))) (.low 61 (.one 60 A60 (.one 61 A61 .nil)) (.one 62 A62 (.one 63 A63 .nil))))) (.low 70 (.low 66 (.one 64 A64 (.one 65 A65 (.one 66 A66 .nil))) (.low 68 (.one 67 A67 (.one 68 A68 .nil)) (.one 69 A69 (.one 70 A70 .nil)))) (.low 74 (.low 72 (.one 71 A71 (.one 72 A72 .nil)) (.one 73 A73 (.one 74 A74 .nil))) (.low 76 (.one 75 A75 (.one 76 A76 .nil)) (.one 77 A77 (.one 78 A78 .nil))))))) (.low 111 (.low 95 (.low 87 (.low 83 (.one 79 A79 (.one 81 A81 (.one 83 A83 .nil))) (.low 85 (.one 84 A84 (.one 85 A85 .nil)) (.one 86 A86 (.one 87 A87 .nil)))) (.low 91 (.low 89 (.one 88 A88 (.one 89 A89 .nil)) (.one 90 A90 (.one 91 A91 .nil))) (.low 93 (.one 92 A92 (.one 93 A93 .nil)) (.one 94 A94 (.one 95 A95 .nil))))) (.low 102 (.low 98 (.one 96 A96 (.one 97 A97 (.one 98 A98 .nil))) (.low 100 (.one 99 A99 (.one 100 A100 .nil)) (.one 101 A101 (.one 102 A102 .nil)))) (.low 107 (.low 104 (.one 103 A103 (.one 104 A104 .nil)) (.one 105 A105 (.one 107 A107 .nil))) (.low 109 (.one 108 A108 (.one 109 A109 .nil)) (.one 110 A110 (.one 111 A111 .nil)))))) (.low 128 (.low 118 (.low 114 (.one 112 A112 (.one 113 A113 (.one 114 A114 .nil))) (.low 116 (.one 115 A115 (.one 116 A116 .nil)) (.one 117 A117 (.one 118 A118 .nil)))) (.low 124 (.low 120 (.one 119 A119 (.one 120 A120 .nil)) (.one 121 A121 (.one 124 A124 .nil))) (.low 126 (.one 125 A125 (.one 126 A126 .nil)) (.one 127 A127 (.one 128 A128 .nil))))) (.low 135 (.low 131 (.one 129 A129 (.one 130 A130 (.one 131 A131 .nil))) (.low 133 (.one 132 A132 (.one 133 A133 .nil)) (.one 134 A134 (.one 135 A135 .nil)))) (.low 139 (.low 137 (.one 136 A136 (.one 137 A137 .nil)) (.one 138 A138 (.one 139 A139 .nil))) (.low 141 (.one 140 A140 (.one 141 A141 .nil)) (.one 142 A142 (.one 143 A143 .nil))))))))
theorem TAB_ok : TabOK PROG TAB := (.low (.low (.low (.low (.low (.one A4_ok (.one A9_ok (.one A10_ok .nil))) (.low (.one A11_ok (.one A12_ok .nil)) (.one A14_ok (.one A18_ok .nil)))) (.low (.one A19_ok (.one A20_ok (.one A21_ok .nil))) (.low (.one A22_ok (.one A23_ok .nil)) (.one A24_ok (.one A25_ok .nil))))) (.low (.low (.one A26_ok (.one A27_ok (.one A28_ok .nil))) (.low (.one A29_ok (.one A30_ok .nil)) (.one A31_ok (.one A32_ok .nil)))) (.low (.low (.one A33_ok (.one A40_ok .nil)) (.one A41_ok (.one A42_ok .nil))) (.low (.one A43_ok (.one A44_ok .nil)) (.one A45_ok (.one A46_ok .nil)))))) (.low (.low (.low (.one A47_ok (.one A48_ok (.one A49_ok .nil))) (.low (.one A50_ok (.one A51_ok .nil)) (.one A52_ok (.one A53_ok .nil)))) (.low (.low (.one A54_ok (.one A55_ok .nil)) (.one A58_ok (.one A59_ok .nil))) (.low (.one A60_ok (.one A61_ok .nil)) (.one A62_ok (.one A63_ok .nil))))) (.low (.low (.one A64_ok (.one A65_ok (.one A66_ok .nil))) (.low (.one A67_ok (.one A68_ok .nil)) (.one A69_ok (.one A70_ok .nil)))) (.low (.low (.one A71_ok (.one A72_ok .nil)) (.one A73_ok (.one A74_ok .nil))) (.low (.one A75_ok (.one A76_ok .nil)) (.one A77_ok (.one A78_ok .nil))))))) (.low (.low (.low (.low (.one A79_ok (.one A81_ok (.one A83_ok .nil))) (.low (.one A84_ok (.one A85_ok .nil)) (.one A86_ok (.one A87_ok .nil)))) (.low (.low (.one A88_ok (.one A89_ok .nil)) (.one A90_ok (.one A91_ok .nil))) (.low (.one A92_ok (.one A93_ok .nil)) (.one A94_ok (.one A95_ok .nil))))) (.low (.low (.one A96_ok (.one A97_ok (.one A98_ok .nil))) (.low (.one A99_ok (.one A100_ok .nil)) (.one A101_ok (.one A102_ok .nil)))) (.low (.low (.one A103_ok (.one A104_ok .nil)) (.one A105_ok (.one A107_ok .nil))) (.low (.one A108_ok (.one A109_ok .nil)) (.one A110_ok (.one A111_ok .nil)))))) (.low (.low (.low (.one A112_ok (.one A113_ok (.one A114_ok .nil))) (.low (.one A115_ok (.one A116_ok .nil)) (.one A117_ok (.one A118_ok .nil)))) (.low (.low (.one A119_ok (.one A120_ok .nil)) (.one A121_ok (.one A124_ok .nil))) (.low (.one A125_ok (.one A126_ok .nil)) (.one A127_ok (.one A128_ok .nil))))) (.low (.low (.one A129_ok (.one A130_ok (.one A131_ok .nil))) (.low (.one A132_ok (.one A133_ok .nil)) (.one A134_ok (.one A135_ok .nil)))) (.low (.low (.one A136_ok (.one A137_ok .nil)) (.one A138_ok (.one A139_ok .nil))) (.low (.one A140_ok (.one A141_ok .nil)) (.one A142_ok (.one A143_ok .nil))))))))

end Go.Pg
