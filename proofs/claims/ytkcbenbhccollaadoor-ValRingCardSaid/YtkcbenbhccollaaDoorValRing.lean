/- Layer 9: numbers go round: the law's tree returns true for all numbers. -/
import Derived.Test.YtkcbenbhccollaaDoorValOps
namespace Go.Pg
open Go.Proofs

theorem opM_add (a b : Int) : opM (bs [43]) a b = (1, W63 (wi64 (a + b)), true) := by
  unfold opM
  rw [if_pos (by decide +kernel)]
theorem opM_sub (a b : Int) : opM (bs [45]) a b = (1, W63 (wi64 (a - b)), true) := by
  unfold opM
  rw [if_neg (by decide +kernel), if_pos (by decide +kernel)]
theorem opM_mul (a b : Int) : opM (bs [42]) a b = (1, W63 (wi64 (a * b)), true) := by
  unfold opM
  rw [if_neg (by decide +kernel), if_neg (by decide +kernel), if_pos (by decide +kernel)]
theorem opM_lt (a b : Int) : opM (bs [60]) a b = (2, if decide (a < b) = true then 1 else 0, true) := by
  unfold opM
  rw [if_neg (by decide +kernel), if_neg (by decide +kernel), if_neg (by decide +kernel), if_pos (by decide +kernel)]
theorem opM_eq (a b : Int) : opM (bs [61]) a b = (2, if (a == b) = true then 1 else 0, true) := by
  unfold opM
  rw [if_neg (by decide +kernel), if_neg (by decide +kernel), if_neg (by decide +kernel), if_neg (by decide +kernel), if_pos (by decide +kernel)]
theorem w63_wi (x : Int) : W63 (wi64 x) = W63 x := by rw [w63_eq, w63_eq, wi64_eq]; omega

set_option maxRecDepth 100000 in
theorem valRing_true (a0 : Int) (_ : (Lit.int .i64 a0).wf = true) (a1 : Int) (_ : (Lit.int .i64 a1).wf = true) (a2 : Int) (_ : (Lit.int .i64 a2).wf = true) :
    WpF PROG ovD 4 [.int .i64 a0, .int .i64 a1, .int .i64 a2] (startH (tabOld tabsD)) fun v _ => v = .bool true := by
  refine WpF.of (T4_eq _ _ _) rfl ?_
  rw [T4, wp_call]
  refine awake9.mono ?_
  rintro v σ rfl
  rw [asBool_bool, wp_bif, if_neg (by simp), wp_bif]
  by_cases hn : a2 < 0 ∨ a2 > 50
  · rw [if_pos (by simpa using hn), wp_ret]
    exact ⟨_, rfl, rfl⟩
  rw [if_neg (by simpa using hn), wp_call, WpF.eq (ev_wrap _ _), asInt_int, wp_call, WpF.eq (ev_wrap _ _), asInt_int, wp_call]
  have hA := w63_in a0
  have hB := w63_in a1
  generalize W63 a0 = a at hA ⊢
  generalize W63 a1 = b at hB ⊢
  refine wp_op _ _ _ σ fun σ1 hF1 => ?_
  rw [opM_add]
  simp only [asTuple_tuple, asAgg_agg, asCons_cons, asInt_int, asStr_str, asSlice_slice, asPtr_ptr, asBool_bool, asNil_nil]
  refine wp_newQ fun σ2 hF2 hn2 hS2 => ?_
  refine wp_stQ hS2 rfl rfl fun σ3 hF3 hn3 hS3 => ?_
  rw [wp_ldF hS3 rfl, asInt_int, wp_call]
  refine wp_op _ _ _ σ3 fun σ4 hF4 => ?_
  rw [opM_sub]
  simp only [asTuple_tuple, asAgg_agg, asCons_cons, asInt_int, asStr_str, asSlice_slice, asPtr_ptr, asBool_bool, asNil_nil]
  refine wp_newQ fun σ5 hF5 hn5 hS5 => ?_
  refine wp_stQ hS5 rfl rfl fun σ6 hF6 hn6 hS6 => ?_
  rw [wp_call]
  refine wp_op _ _ _ σ6 fun σ7 hF7 => ?_
  rw [opM_mul]
  simp only [asTuple_tuple, asAgg_agg, asCons_cons, asInt_int, asStr_str, asSlice_slice, asPtr_ptr, asBool_bool, asNil_nil]
  refine wp_newQ fun σ8 hF8 hn8 hS8 => ?_
  refine wp_stQ hS8 rfl rfl fun σ9 hF9 hn9 hS9 => ?_
  have hn7 := hF7.n
  have hS6b := hF9.st (hF8.stN (hF7.stN hS6)) (by omega)
  have hd : W63 (wi64 (W63 (wi64 (a + b)) - b)) = a := by rw [w63_wi, w63_wi, w63_eq, w63_eq]; omega
  rw [hd] at hS6b
  have hlt4 : σ4.n < σ9.n := by omega
  have hlt7 : σ7.n < σ9.n := by omega
  refine Wp.count a2.toNat (fun j st σ' => Frm σ9 σ' NoB ∧ st = [.int .i64 ((j : Nat) : Int), .int .i64 (W63 (a * ((j : Nat) : Int)))]) ⟨Frm.refl _ _, by simp [w63_eq]⟩ ?_ ?_
  · rintro j st σ' hj ⟨hF, rfl⟩
    have ej : wi64 ((j : Int) + 1) = (j : Int) + 1 := wi64_in (by omega)
    simp only [T4b0, asCons_cons, asInt_int, asNil_nil]
    rw [wp_bif, if_pos (by simp; omega), wp_join, wp_call]
    refine wp_op _ _ _ σ' fun σ10 hF10 => ?_
    rw [opM_add]
    simp only [asTuple_tuple, asAgg_agg, asCons_cons, asInt_int, asStr_str, asSlice_slice, asPtr_ptr, asBool_bool, asNil_nil]
    refine wp_newQ fun σ11 hF11 hn11 hS11 => ?_
    refine wp_stQ hS11 rfl rfl fun σ12 hF12 hn12 hS12 => ?_
    rw [wp_ldF hS12 rfl, asInt_int, wp_ret]
    simp only [T4k0, sw_same, asCons_cons, asInt_int, asNil_nil, wp_ret, ej]
    have hn' := hF.n
    have hn10 := hF10.n
    refine ⟨((hF.seq hF10).seq hF11).fresh hF12 fun j hj h => by omega, ?_⟩
    have e1 : a * ((j + 1 : Nat) : Int) = a * (j : Int) + a := by rw [Int.natCast_add, Int.mul_add]; simp
    rw [e1]
    generalize a * (j : Int) = x
    rw [w63_wi, w63_eq, w63_eq, w63_eq (x + a)]
    have : ((x + 4611686018427387904) % 9223372036854775808 - 4611686018427387904 + a + 4611686018427387904) % 9223372036854775808 = (x + a + 4611686018427387904) % 9223372036854775808 := by omega
    rw [this]
    rfl
  · rintro st σ' ⟨hF, rfl⟩
    simp only [T4b0, asCons_cons, asInt_int, asNil_nil]
    rw [wp_bif, if_neg (by simp; omega), wp_ret]
    simp only [T4k2, sw_same, asCons_cons, asInt_int, asNil_nil]
    have hS6c := hF.stN hS6b
    have hS9c := hF.stN hS9
    have hn' := hF.n
    rw [wp_call]
    refine wp_op _ _ _ σ' fun σ10 hF10 => ?_
    rw [opM_lt]
    simp only [asTuple_tuple, asAgg_agg, asCons_cons, asInt_int, asStr_str, asSlice_slice, asPtr_ptr, asBool_bool, asNil_nil]
    refine wp_newQ fun σ11 hF11 hn11 hS11 => ?_
    refine wp_stQ hS11 rfl rfl fun σ12 hF12 hn12 hS12 => ?_
    rw [wp_call]
    refine wp_op _ _ _ σ12 fun σ13 hF13 => ?_
    rw [opM_lt]
    simp only [asTuple_tuple, asAgg_agg, asCons_cons, asInt_int, asStr_str, asSlice_slice, asPtr_ptr, asBool_bool, asNil_nil]
    refine wp_newQ fun σ14 hF14 hn14 hS14 => ?_
    refine wp_stQ hS14 rfl rfl fun σ15 hF15 hn15 hS15 => ?_
    rw [wp_call]
    refine wp_op _ _ _ σ15 fun σ16 hF16 => ?_
    rw [opM_eq]
    simp only [asTuple_tuple, asAgg_agg, asCons_cons, asInt_int, asStr_str, asSlice_slice, asPtr_ptr, asBool_bool, asNil_nil]
    refine wp_newQ fun σ17 hF17 hn17 hS17 => ?_
    refine wp_stQ hS17 rfl rfl fun σ18 hF18 hn18 hS18 => ?_
    have hn10 := hF10.n
    have hn13 := hF13.n
    have hn16 := hF16.n
    have q12 : Frm σ' σ12 NoB := (hF10.seq hF11).fresh hF12 fun j hj h => by omega
    have q15 : Frm σ12 σ15 NoB := (hF13.seq hF14).fresh hF15 fun j hj h => by omega
    have q18 : Frm σ15 σ18 NoB := (hF16.seq hF17).fresh hF18 fun j hj h => by omega
    rw [wp_join, wp_ldF (((q12.seq q15).seq q18).stN hS6c) rfl, asInt_int, wp_bif, if_pos (by simp), wp_ldF (((q12.seq q15).seq q18).stN hS9c) rfl, asInt_int, wp_bif, if_pos (by
        rw [w63_wi, Int.toNat_of_nonneg (by omega)]
        simp), wp_ldF ((q15.seq q18).stN hS12) rfl, asInt_int, wp_ldF (q18.stN hS15) rfl, asInt_int, wp_ldF hS18 rfl, asInt_int, wp_ret]
    simp only [T4k1, sw_same, asCons_cons, asBool_bool, asNil_nil]
    rw [wp_ret]
    refine ⟨_, rfl, ?_⟩
    have : (wi64 (wi64 ((if decide (a < b) = true then 1 else 0) + if decide (b < a) = true then 1 else 0) + if (a == b) = true then 1 else 0) == 1) = true := by
      simp only [decide_eq_true_eq, beq_iff_eq]
      rcases Int.lt_trichotomy a b with h | h | h
      · rw [if_pos h, if_neg (by omega), if_neg (by omega)]; decide
      · rw [if_neg (by omega), if_neg (by omega), if_pos h]; decide
      · rw [if_neg (by omega), if_pos h, if_neg (by omega)]; decide
    rw [this]
end Go.Pg
