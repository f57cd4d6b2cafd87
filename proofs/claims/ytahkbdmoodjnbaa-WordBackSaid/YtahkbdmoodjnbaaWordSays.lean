/- Layer 11: every result of the words' package equals that of the document's own; what is made is read back. -/
import Derived.Test.YtahkbdmoodjnbaaWord
namespace Go.Pg
open Go.Proofs

theorem ev_num' (n : Int) (σ : AHeap) : EvF PROG ov0 20 [.int .i64 n] σ (.int .u64 (numW n)) σ :=
  EvF.of (T20_eq n) rfl (by simp [T20, wp_ret, num_eq])

theorem ev_ptr' (n : Int) (σ : AHeap) : EvF PROG ov0 21 [.int .i64 n] σ (.int .u64 (ptrW n)) σ := by
  refine EvF.of (T21_eq n) rfl ?_
  have h : ∀ m : Int, 0 ≤ m → m ≤ 2147483647 → wu64 (wu64 m * 2) = 2 * m := fun m h1 h2 => by rw [wu64_eq, wu64_eq]; omega
  unfold ptrW
  by_cases h1 : n < 0
  · simp [T21, T21k0, T21k1, wp_join, wp_ret, sw_same, asCons_cons, asInt_int, asNil_nil, h1, h]
    omega
  · by_cases h2 : n > 2147483647
    · simp [T21, T21k0, T21k1, wp_join, wp_ret, sw_same, asCons_cons, asInt_int, asNil_nil, h1, h2, h]
      omega
    · simp [T21, T21k0, T21k1, wp_join, wp_ret, sw_same, asCons_cons, asInt_int, asNil_nil, h1, h2, h n (by omega) (by omega)]
      omega

theorem ev_int' (w : Int) (hw : 0 ≤ w) (σ : AHeap) : EvF PROG ov0 13 [.int .u64 w] σ (.tuple #[.int .i64 (intW w), .bool (decide (w % 2 ≠ 0))]) σ := by
  refine EvF.of (T13_eq w) rfl ?_
  have h := shrI_eq .i64 (wi64 w) 1 (by decide)
  simp only [Int.natCast_one] at h
  rw [T13, wp_bif, Int.tmod_eq_emod_of_nonneg hw, h, wi64_eq]
  unfold intW
  by_cases h2 : w % 2 = 0 <;> simp [h2, wp_ret]

/-- The place that a word is. -/
def atB (w : Int) : Bool := decide (w % 2 = 0 ∧ w ≤ 4294967294)
def atW (w : Int) : Int := if atB w = true then w / 2 else 0

theorem ev_at (w : Int) (hw : 0 ≤ w ∧ w ≤ 18446744073709551615) (σ : AHeap) : EvF PROG ov0 14 [.int .u64 w] σ (.tuple #[.int .i64 (atW w), .bool (atB w)]) σ := by
  refine EvF.of (T14_eq w) rfl ?_
  have h := shrI_eq .u64 w 1 (by decide)
  simp only [Int.natCast_one] at h
  unfold atW atB
  by_cases h1 : w % 2 = 1
  · have : ¬ (w % 2 = 0) := by omega
    simp [T14, T14k0, wp_join, wp_ret, sw_same, asCons_cons, asBool_bool, asNil_nil, and_one, h1]
  · have h1' : w % 2 = 0 := by omega
    have e : wi64 (w / 2) = if w / 2 ≤ 2147483647 then w / 2 else wi64 (w / 2) := by
      split
      · exact wi64_in (by omega)
      · rfl
    by_cases h2 : w / 2 > 2147483647
    · have : ¬ w ≤ 4294967294 := by omega
      simp [T14, T14k0, wp_join, wp_ret, sw_same, asCons_cons, asBool_bool, asNil_nil, and_one, h1', h, h2, this]
    · have h3 : w ≤ 4294967294 := by omega
      simp [T14, T14k0, wp_join, wp_ret, sw_same, asCons_cons, asBool_bool, asNil_nil, and_one, h1', h, h2, h3, wi64_in (show -9223372036854775808 ≤ w / 2 ∧ w / 2 ≤ 9223372036854775807 by omega)]

theorem ev_at' (w : Int) (hw : 0 ≤ w ∧ w ≤ 18446744073709551615) (σ : AHeap) : EvF PROG ov0 15 [.int .u64 w] σ (.tuple #[.int .i64 (atW w), .bool (atB w)]) σ := by
  refine EvF.of (T15_eq w) rfl ?_
  unfold atW atB
  rw [T15, wp_bif, Int.tmod_eq_emod_of_nonneg hw.1]
  by_cases h1 : w % 2 = 1
  · have : ¬ (w % 2 = 0) := by omega
    simp [wp_ret, h1]
  · have h1' : w % 2 = 0 := by omega
    by_cases h2 : w > 4294967294
    · have : ¬ w ≤ 4294967294 := by omega
      simp [wp_ret, h1', h2, this]
    · have h3 : w ≤ 4294967294 := by omega
      simp [wp_ret, h1', h2, h3, Int.tdiv_eq_ediv_of_nonneg hw.1, wu64_in (show 0 ≤ w / 2 ∧ w / 2 ≤ 18446744073709551615 by omega), wi64_in (show -9223372036854775808 ≤ w / 2 ∧ w / 2 ≤ 9223372036854775807 by omega)]

/-- A thing's first word. -/
def headB (k t s : Int) : Bool := decide (1 ≤ k ∧ k ≤ 3 ∧ 0 ≤ t ∧ t ≤ 255 ∧ 0 ≤ s ∧ s ≤ 65535)
def headW (k t s : Int) : Int := if headB k t s = true then 2 * (s + t * 65536 + k * 16777216) + 1 else 0

theorem head_or (k t s : Int) (h : 1 ≤ k ∧ k ≤ 3 ∧ 0 ≤ t ∧ t ≤ 255 ∧ 0 ≤ s ∧ s ≤ 65535) : orI .i64 (orI .i64 s (shlI .i64 t 16)) (shlI .i64 k 24) = s + t * 65536 + k * 16777216 := by
  have h1 : shlI .i64 t 16 = IntKind.i64.wrap (t * 2 ^ 16) := shlI_eq .i64 t 16 (by decide)
  have h2 : shlI .i64 k 24 = IntKind.i64.wrap (k * 2 ^ 24) := shlI_eq .i64 k 24 (by decide)
  rw [h1, h2]
  have e1 : IntKind.i64.wrap (t * 2 ^ 16) = t * 65536 := by
    show wi64 _ = _
    rw [wi64_in (by omega)]
    omega
  have e2 : IntKind.i64.wrap (k * 2 ^ 24) = k * 16777216 := by
    show wi64 _ = _
    rw [wi64_in (by omega)]
    omega
  have comm : ∀ a b : Int, orI .i64 a b = orI .i64 b a := fun a b => by unfold orI; rw [BitVec.or_comm]
  rw [e1, e2, comm s, orI_disj .i64 (t * 65536) s t 16 (by omega) (by omega) (by decide)]
  have e3 : IntKind.i64.wrap (t * 65536 + s) = t * 65536 + s := wi64_in (by omega)
  rw [e3, comm, orI_disj .i64 (k * 16777216) (t * 65536 + s) k 24 (by omega) (by omega) (by decide)]
  have e4 : IntKind.i64.wrap (k * 16777216 + (t * 65536 + s)) = k * 16777216 + (t * 65536 + s) := wi64_in (by omega)
  rw [e4]
  omega

theorem head_test (k t s : Int) : ((((((decide (k < 1)) || (decide (k > 3))) || (decide (t < 0))) || (decide (t > 255))) || (decide (s < 0))) || (decide (s > 65535))) = !headB k t s := by
  unfold headB
  rw [Bool.eq_iff_iff]
  simp only [Bool.or_eq_true, decide_eq_true_eq, Bool.not_eq_true', decide_eq_false_iff_not]
  omega

theorem ev_head (k t s : Int) (σ : AHeap) : EvF PROG ov0 16 [.int .i64 k, .int .i64 t, .int .i64 s] σ (.tuple #[.int .u64 (headW k t s), .bool (headB k t s)]) σ := by
  refine EvF.of (T16_eq k t s) rfl ?_
  rw [T16, wp_bif, head_test]
  unfold headW
  cases h : headB k t s with
  | false => simp [wp_ret]
  | true =>
    unfold headB at h
    rw [decide_eq_true_eq] at h
    have e : numW (s + t * 65536 + k * 16777216) = 2 * (s + t * 65536 + k * 16777216) + 1 := by unfold numW; omega
    simp [wp_call, WpF.eq (ev_num _ _), asInt_int, wp_ret, head_or k t s h, e]

theorem ev_head' (k t s : Int) (σ : AHeap) : EvF PROG ov0 17 [.int .i64 k, .int .i64 t, .int .i64 s] σ (.tuple #[.int .u64 (headW k t s), .bool (headB k t s)]) σ := by
  refine EvF.of (T17_eq k t s) rfl ?_
  rw [T17, wp_bif, head_test]
  unfold headW
  cases h : headB k t s with
  | false => simp [wp_ret]
  | true =>
    unfold headB at h
    rw [decide_eq_true_eq] at h
    have e1 : wi64 (t * 65536) = t * 65536 := wi64_in (by omega)
    have e2 : wi64 (k * 16777216) = k * 16777216 := wi64_in (by omega)
    have e3 : wi64 (s + t * 65536) = s + t * 65536 := wi64_in (by omega)
    have e4 : wi64 (s + t * 65536 + k * 16777216) = s + t * 65536 + k * 16777216 := wi64_in (by omega)
    have e : wu64 (wu64 (wu64 (s + t * 65536 + k * 16777216) * 2) + 1) = 2 * (s + t * 65536 + k * 16777216) + 1 := by
      simp only [wu64_eq]
      omega
    simp [wp_ret, e1, e2, e3, e4, e]

/-- What a first word says. -/
def splB (w : Int) : Bool := decide (w % 2 = 1 ∧ 33554432 < w ∧ w < 134217728)
def splK (w : Int) : Int := if splB w = true then w / 33554432 else 0
def splT (w : Int) : Int := if splB w = true then w / 131072 % 256 else 0
def splS (w : Int) : Int := if splB w = true then w / 2 % 65536 else 0

theorem ev_split (w : Int) (hw : 0 ≤ w ∧ w ≤ 18446744073709551615) (σ : AHeap) : EvF PROG ov0 18 [.int .u64 w] σ (.tuple #[.int .i64 (splK w), .int .i64 (splT w), .int .i64 (splS w), .bool (splB w)]) σ := by
  refine EvF.of (T18_eq w) rfl ?_
  have h24 : shrI .i64 (intW w) 24 = intW w / 2 ^ 24 := shrI_eq .i64 (intW w) 24 (by decide)
  have h16 : shrI .i64 (intW w) 16 = intW w / 2 ^ 16 := shrI_eq .i64 (intW w) 16 (by decide)
  have m1 : andI .i64 (intW w / 65536) 255 = intW w / 65536 % 256 := by simpa using andI_mask .i64 (intW w / 65536) 8 (by decide)
  have m2 : andI .i64 (intW w) 65535 = intW w % 65536 := by simpa using andI_mask .i64 (intW w) 16 (by decide)
  simp only [show ((2 : Int) ^ 16) = 65536 from by decide] at h16
  simp only [show ((2 : Int) ^ 24) = 16777216 from by decide] at h24
  have ht : ((((!(decide (w % 2 ≠ 0))) || (decide (intW w < 0))) || (decide (intW w > 67108863))) || (decide (intW w / 16777216 < 1))) = !splB w := by
    unfold splB
    rw [Bool.eq_iff_iff]
    simp only [Bool.or_eq_true, decide_eq_true_eq, Bool.not_eq_true', decide_eq_false_iff_not]
    unfold intW
    split <;> omega
  simp only [T18, wp_call, WpF.eq (ev_int _ _), asTuple_tuple, asCons_cons, asInt_int, asBool_bool, asNil_nil, wp_bif, h24, h16, ht, m1, m2]
  unfold splK splT splS
  cases h : splB w with
  | false => simp [wp_ret]
  | true =>
    unfold splB at h
    rw [decide_eq_true_eq] at h
    have hi : intW w = w / 2 := by unfold intW; split <;> omega
    simp [wp_ret, hi]
    omega

theorem ev_split' (w : Int) (hw : 0 ≤ w ∧ w ≤ 18446744073709551615) (σ : AHeap) : EvF PROG ov0 19 [.int .u64 w] σ (.tuple #[.int .i64 (splK w), .int .i64 (splT w), .int .i64 (splS w), .bool (splB w)]) σ := by
  refine EvF.of (T19_eq w) rfl ?_
  have e0 : wu64 (w.tdiv 2) = w / 2 := by rw [Int.tdiv_eq_ediv_of_nonneg hw.1]; exact wu64_in (by omega)
  have e1 : wi64 (w / 2) = w / 2 := wi64_in (by omega)
  have e2 : Int.tmod w 2 = w % 2 := Int.tmod_eq_emod_of_nonneg hw.1
  have e3 : ∀ n : Int, 0 < n → Int.tdiv (w / 2) n = w / 2 / n := fun n _ => Int.tdiv_eq_ediv_of_nonneg (by omega)
  have e4 : wi64 (w / 2 / 16777216) = w / 2 / 16777216 := wi64_in (by omega)
  have e5 : wi64 (w / 2 / 65536) = w / 2 / 65536 := wi64_in (by omega)
  have e6 : Int.tmod (w / 2 / 65536) 256 = w / 2 / 65536 % 256 := Int.tmod_eq_emod_of_nonneg (by omega)
  have e7 : Int.tmod (w / 2) 65536 = w / 2 % 65536 := Int.tmod_eq_emod_of_nonneg (by omega)
  unfold splK splT splS
  by_cases h1 : w % 2 = 0
  · have : splB w = false := by unfold splB; rw [decide_eq_false_iff_not]; omega
    simp [T19, T19k0, wp_join, wp_ret, sw_same, asCons_cons, asBool_bool, asNil_nil, e2, h1, this]
  · by_cases h2 : w / 2 ≥ 67108864
    · have : splB w = false := by unfold splB; rw [decide_eq_false_iff_not]; omega
      simp [T19, T19k0, wp_join, wp_ret, sw_same, asCons_cons, asBool_bool, asNil_nil, e2, e0, h2, this]
    · by_cases h3 : w / 2 < 16777216
      · have : splB w = false := by unfold splB; rw [decide_eq_false_iff_not]; omega
        simp [T19, T19k0, wp_join, wp_ret, sw_same, asCons_cons, asBool_bool, asNil_nil, e2, e0, h2, h3, this]
      · have : splB w = true := by unfold splB; rw [decide_eq_true_eq]; omega
        have g1 : decide (w / 2 ≥ 67108864) = false := by simpa using h2
        have g2 : decide (w / 2 < 16777216) = false := by simpa using h3
        have g3 : (w % 2 == 0) = false := by simpa using h1
        simp only [T19, T19k0, wp_join, wp_bif, wp_ret, sw_same, asCons_cons, asBool_bool, asNil_nil, e2, e0, e1, e3 _ (show (0 : Int) < 16777216 by decide), e3 _ (show (0 : Int) < 65536 by decide), e4, e5, e6, e7, g1, g2, g3, this, beq_self_eq_true, if_true, Bool.false_eq_true, if_false]
        have g4 : w / 2 / 16777216 = w / 33554432 := by omega
        have g5 : w / 2 / 65536 = w / 131072 := by omega
        rw [g4, g5]
        exact ⟨rfl, trivial⟩

theorem u64_in {w : Int} (h : (Lit.int .u64 w).wf = true) : 0 ≤ w ∧ w ≤ 18446744073709551615 := by
  simpa [Lit.wf, IntKind.min, IntKind.max, IntKind.signed, IntKind.bits] using h
theorem i64_in {w : Int} (h : (Lit.int .i64 w).wf = true) : -9223372036854775808 ≤ w ∧ w ≤ 9223372036854775807 := by
  simpa [Lit.wf, IntKind.min, IntKind.max, IntKind.signed, IntKind.bits] using h

theorem wordSays_true (n : Int) (_ : (Lit.int .i64 n).wf = true) (a : Int) (_ : (Lit.int .i64 a).wf = true) (k : Int) (_ : (Lit.int .i64 k).wf = true) (t : Int) (_ : (Lit.int .i64 t).wf = true) (s : Int) (_ : (Lit.int .i64 s).wf = true)
    (w : Int) (hw : (Lit.int .u64 w).wf = true) (σ : AHeap) : WpF PROG ov0 4 [.int .i64 n, .int .i64 a, .int .i64 k, .int .i64 t, .int .i64 s, .int .u64 w] σ fun v _ => v = .bool true := by
  have h := u64_in hw
  refine WpF.of (T4_eq n a k t s w) rfl ?_
  simp [T4, T4k0, wp_call, WpF.eq (ev_awake _), WpF.eq (ev_num _ _), WpF.eq (ev_num' _ _), WpF.eq (ev_ptr _ _), WpF.eq (ev_ptr' _ _), WpF.eq (ev_int _ _), WpF.eq (ev_int' w h.1 _), WpF.eq (ev_at w h _), WpF.eq (ev_at' w h _),
    WpF.eq (ev_head _ _ _ _), WpF.eq (ev_head' _ _ _ _), WpF.eq (ev_split w h _), WpF.eq (ev_split' w h _), asInt_int, asTuple_tuple, asCons_cons, asBool_bool, asNil_nil, wp_join, wp_ret, sw_same]

theorem wordBack_true (n : Int) (hn : (Lit.int .i64 n).wf = true) (a : Int) (ha : (Lit.int .i64 a).wf = true) (k : Int) (_ : (Lit.int .i64 k).wf = true) (t : Int) (_ : (Lit.int .i64 t).wf = true) (s : Int) (_ : (Lit.int .i64 s).wf = true)
    (w : Int) (hw : (Lit.int .u64 w).wf = true) (σ : AHeap) : WpF PROG ov0 5 [.int .i64 n, .int .i64 a, .int .i64 k, .int .i64 t, .int .i64 s, .int .u64 w] σ fun v _ => v = .bool true := by
  have h := u64_in hw
  have hn' := i64_in hn
  have ha' := i64_in ha
  refine WpF.of (T5_eq n a k t s w) rfl ?_
  have e1 : intW (numW n) = (n + 4611686018427387904) % 9223372036854775808 - 4611686018427387904 := by unfold intW numW; split <;> omega
  have e2 : numW n % 2 ≠ 0 := by unfold numW; omega
  have e3 : ∀ x : Int, 0 ≤ x → x < 2147483648 → atB (ptrW x) = true ∧ atW (ptrW x) = x := by
    intro x h1 h2
    have : atB (ptrW x) = true := by unfold atB ptrW; rw [decide_eq_true_eq]; omega
    refine ⟨this, ?_⟩
    unfold atW
    rw [if_pos this]
    unfold ptrW
    omega
  have e4 : 0 ≤ ptrW a ∧ ptrW a ≤ 18446744073709551615 := by unfold ptrW; omega
  have e5 : 0 ≤ headW k t s ∧ headW k t s ≤ 18446744073709551615 := by
    unfold headW
    split
    · rename_i hb
      unfold headB at hb
      rw [decide_eq_true_eq] at hb
      omega
    · omega
  have e6 : headB k t s = true → splB (headW k t s) = true ∧ splK (headW k t s) = k ∧ splT (headW k t s) = t ∧ splS (headW k t s) = s := by
    intro hb
    have hw : headW k t s = 2 * (s + t * 65536 + k * 16777216) + 1 := by unfold headW; rw [if_pos hb]
    unfold headB at hb
    rw [decide_eq_true_eq] at hb
    have : splB (headW k t s) = true := by unfold splB; rw [decide_eq_true_eq]; omega
    unfold splK splT splS
    rw [if_pos this, if_pos this, if_pos this]
    exact ⟨this, by omega, by omega, by omega⟩
  have e7 : (!(decide (w % 2 ≠ 0) && atB w)) = true := by
    unfold atB
    by_cases h2 : w % 2 = 0 <;> simp [h2]
  have e8 : (decide (w % 2 ≠ 0) == (Int.tmod w 2 == 1)) = true := by
    rw [Int.tmod_eq_emod_of_nonneg h.1]
    have : w % 2 = 0 ∨ w % 2 = 1 := by omega
    rcases this with h2 | h2 <;> simp [h2]
  have tail : Wp PROG ov0 (T5k1 w .normal [.bool false]) σ fun _ vs _ => ∃ v, vs = [v] ∧ v = .bool true := by
    simp only [T5k1, T5k0, sw_nr, sw_same, asCons_cons, asBool_bool, asNil_nil, wp_call, WpF.eq (ev_int _ _), WpF.eq (ev_at w h _), asTuple_tuple, asInt_int, wp_join, wp_bif, e7, beq_self_eq_true, if_true, wp_ret, e8]
    exact ⟨_, rfl, rfl⟩
  have tail2 : Wp PROG ov0 (T5k2 k t s w .normal [.bool false]) σ fun _ vs _ => ∃ v, vs = [v] ∧ v = .bool true := by
    simp only [T5k2, sw_nr, sw_same, asCons_cons, asBool_bool, asNil_nil, wp_call, WpF.eq (ev_head _ _ _ _), WpF.eq (ev_split _ e5 _), asTuple_tuple, asInt_int, wp_join, wp_bif]
    split
    · rename_i hb
      obtain ⟨q1, q2, q3, q4⟩ := e6 hb
      have : ((((!splB (headW k t s)) || (splK (headW k t s) != k)) || (splT (headW k t s) != t)) || (splS (headW k t s) != s)) = false := by rw [q1, q2, q3, q4]; simp
      rw [this]
      simp only [Bool.false_eq_true, if_false, wp_ret]
      exact tail
    · simp only [wp_ret]
      exact tail
  have d2 : decide (numW n % 2 ≠ 0) = true := by rw [decide_eq_true_eq]; exact e2
  have d3 : (intW (numW n) != shrI .i64 (shlI .i64 n 1) 1) = false := by rw [e1, shl_shr]; simp
  simp only [T5, T5k3, wp_call, WpF.eq (ev_awake _), WpF.eq (ev_num _ _), WpF.eq (ev_int _ _), WpF.eq (ev_ptr _ _), WpF.eq (ev_at _ e4 _), asInt_int, asTuple_tuple, asCons_cons, asBool_bool, asNil_nil, wp_join, wp_bif, wp_ret, sw_same, Bool.not_true, Bool.false_eq_true, if_false,
    d2, d3, beq_self_eq_true, if_true]
  split
  · rename_i hc
    simp only [Bool.and_eq_true, decide_eq_true_eq] at hc
    obtain ⟨q1, q2⟩ := e3 a hc.1 hc.2
    have : ((!atB (ptrW a)) || (atW (ptrW a) != a)) = false := by rw [q1, q2]; simp
    rw [this]
    simp only [Bool.false_eq_true, if_false]
    exact tail2
  · exact tail2

end Go.Pg
