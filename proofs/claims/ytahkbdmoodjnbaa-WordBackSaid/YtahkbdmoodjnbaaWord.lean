/- Layer 11: what each function of the words comes to. -/
import Derived.Test.YtahkbdmoodjnbaaT1
namespace Go.Pg
open Go.Proofs

abbrev ov0 : Ov := fun _ => none

/-- A number's word. -/
def numW (n : Int) : Int := (2 * n + 1) % 18446744073709551616

theorem num_eq (n : Int) : orI .u64 (shlI .u64 (wu64 n) 1) 1 = numW n := by
  have h := shlI_eq .u64 (wu64 n) 1 (by decide)
  simp only [Int.natCast_one] at h
  rw [h]
  have e : IntKind.u64.wrap (wu64 n * 2 ^ 1) = ((n * 2) % 18446744073709551616) := by
    show wu64 _ = _
    rw [wu64_eq, wu64_eq]
    omega
  rw [e, orI_disj .u64 _ 1 (n % 9223372036854775808) 1 (by omega) (by decide) (by decide)]
  show wu64 _ = _
  rw [wu64_eq]
  unfold numW
  omega

theorem ev_num (n : Int) (σ : AHeap) : EvF PROG ov0 10 [.int .i64 n] σ (.int .u64 (numW n)) σ :=
  EvF.of (T10_eq n) rfl (by simp [T10, wp_ret, num_eq])

/-- A place's word. -/
def ptrW (n : Int) : Int := 2 * (min (max n 0) 2147483647)

theorem ptr_eq (n : Int) : shlI .u64 (wu64 (minV (maxV n 0) 2147483647)) 1 = ptrW n := by
  have h := shlI_eq .u64 (wu64 (minV (maxV n 0) 2147483647)) 1 (by decide)
  simp only [Int.natCast_one] at h
  rw [h, minV_eq, maxV_eq]
  show wu64 _ = _
  rw [wu64_eq, wu64_eq]
  unfold ptrW
  omega

theorem ev_ptr (n : Int) (σ : AHeap) : EvF PROG ov0 11 [.int .i64 n] σ (.int .u64 (ptrW n)) σ :=
  EvF.of (T11_eq n) rfl (by simp [T11, wp_ret, ptr_eq])

theorem and_one (a : Int) : andI .u64 a 1 = a % 2 := by
  have := andI_mask .u64 a 1 (by decide)
  simpa using this

/-- The number that a word is. -/
def intW (w : Int) : Int := if w % 2 = 0 then 0 else ((w + 9223372036854775808) % 18446744073709551616 - 9223372036854775808) / 2

theorem ev_int (w : Int) (σ : AHeap) : EvF PROG ov0 12 [.int .u64 w] σ (.tuple #[.int .i64 (intW w), .bool (decide (w % 2 ≠ 0))]) σ := by
  refine EvF.of (T12_eq w) rfl ?_
  have h := shrI_eq .i64 (wi64 w) 1 (by decide)
  simp only [Int.natCast_one] at h
  rw [T12, wp_bif, and_one, h, wi64_eq]
  unfold intW
  by_cases h2 : w % 2 = 0 <;> simp [h2, wp_ret]

theorem ev_awake (σ : AHeap) : EvF PROG ov0 9 [] σ (.bool true) σ := by
  refine EvF.of T9_eq rfl ?_
  simp [T9, T9k0, wp_call, WpF.eq (ev_num _ _), WpF.eq (ev_int _ _), WpF.eq (ev_ptr _ _), asInt_int, asTuple_tuple, asCons_cons, asBool_bool, asNil_nil, wp_join, wp_ret, sw_same, numW, intW, show ptrW 5 = 10 from by decide]

theorem shl_shr (a : Int) : shrI .i64 (shlI .i64 a 1) 1 = (a + 4611686018427387904) % 9223372036854775808 - 4611686018427387904 := by
  have h1 := shlI_eq .i64 a 1 (by decide)
  simp only [Int.natCast_one] at h1
  rw [h1]
  have e : IntKind.i64.wrap (a * 2 ^ 1) = wi64 (a * 2) := rfl
  have h2 := shrI_eq .i64 (wi64 (a * 2)) 1 (by decide)
  simp only [Int.natCast_one] at h2
  rw [e, h2, wi64_eq]
  omega

end Go.Pg
