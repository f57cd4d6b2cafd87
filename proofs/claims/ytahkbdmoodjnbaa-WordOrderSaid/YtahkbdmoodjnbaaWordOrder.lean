/- Layer 11: numbers of 63 bits are unlike just if their words are, places too: the law's tree returns true for all integers. -/
import Derived.Test.YtahkbdmoodjnbaaWord
namespace Go.Pg
open Go.Proofs

theorem wordOrder_true (a : Int) (_ : (Lit.int .i64 a).wf = true) (b : Int) (_ : (Lit.int .i64 b).wf = true) (p : Int) (_ : (Lit.int .i64 p).wf = true) (q : Int) (_ : (Lit.int .i64 q).wf = true) (σ : AHeap) : WpF PROG ov0 3 [.int .i64 a, .int .i64 b, .int .i64 p, .int .i64 q] σ fun v _ => v = .bool true := by
  refine WpF.of (T3_eq a b p q) rfl ?_
  simp only [T3, T3k0, wp_call, WpF.eq (ev_awake _), WpF.eq (ev_num _ _), WpF.eq (ev_ptr _ _), asInt_int, asCons_cons, asBool_bool, asNil_nil, wp_join, wp_bif, wp_ret, sw_same, Bool.not_true, Bool.false_eq_true, if_false, shl_shr]
  split
  · exact ⟨_, rfl, rfl⟩
  · rename_i h
    simp only [Bool.or_eq_true, decide_eq_true_eq, not_or] at h
    have h1 : (numW ((a + 4611686018427387904) % 9223372036854775808 - 4611686018427387904) == numW ((b + 4611686018427387904) % 9223372036854775808 - 4611686018427387904)) =
        ((a + 4611686018427387904) % 9223372036854775808 - 4611686018427387904 == (b + 4611686018427387904) % 9223372036854775808 - 4611686018427387904) := by
      rw [Bool.eq_iff_iff]
      simp only [beq_iff_eq]
      unfold numW
      omega
    have h2 : (ptrW p == ptrW q) = (p == q) := by
      rw [Bool.eq_iff_iff]
      simp only [beq_iff_eq]
      unfold ptrW
      omega
    have h3 : (numW ((a + 4611686018427387904) % 9223372036854775808 - 4611686018427387904) != ptrW p) = true := by
      rw [bne_iff_ne]
      unfold numW ptrW
      omega
    rw [h1, h2, h3]
    simp

end Go.Pg
