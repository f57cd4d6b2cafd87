/- Layer 9: any numbers, reckoned with, held in 63 bits, are as the document's own answer says: the law's tree returns true for all texts and numbers. -/
import Derived.Test.YtkcbenbhccollaaDoorVal
namespace Go.Pg
open Go.Proofs

theorem w63_eq (x : Int) : W63 x = (x + 4611686018427387904) % 9223372036854775808 - 4611686018427387904 := by
  rw [show W63 x = shrI .i64 (shlI .i64 x ((1 : Nat) : Int)) ((1 : Nat) : Int) from rfl, shrI_eq _ _ 1 (by decide), shlI_eq _ _ 1 (by decide)]
  have h := IntKind.wrap_i64 (x * 2 ^ 1)
  rw [h]
  omega
theorem w63_in (x : Int) : -4611686018427387904 ≤ W63 x ∧ W63 x < 4611686018427387904 := by rw [w63_eq]; omega
theorem w63_id {x : Int} (h : -4611686018427387904 ≤ x ∧ x < 4611686018427387904) : W63 x = x := by rw [w63_eq]; omega

set_option maxRecDepth 100000 in
theorem valOps_true (s0 : ByteArray) (_ : s0.size ≤ maxLen) (a1 : Int) (_ : (Lit.int .i64 a1).wf = true) (a2 : Int) (_ : (Lit.int .i64 a2).wf = true) :
    WpF PROG ovD 3 [.string s0, .int .i64 a1, .int .i64 a2] (startH (tabOld tabsD)) fun v _ => v = .bool true := by
  refine WpF.of (T3_eq _ _ _) rfl ?_
  rw [T3, wp_call]
  refine awake9.mono ?_
  rintro v σ rfl
  rw [asBool_bool, wp_bif, if_neg (by simp), wp_bif]
  by_cases h20 : ((s0.size : Nat) : Int) > 20
  · rw [if_pos (decide_eq_true h20), wp_ret]
    exact ⟨_, rfl, rfl⟩
  rw [if_neg (by rw [decide_eq_false h20]; simp), wp_call]
  refine wp_op s0 a1 a2 σ fun σ1 hF1 => ?_
  generalize ho : opM s0 a1 a2 = o
  obtain ⟨k, n, ok⟩ := o
  simp only [asTuple_tuple, asAgg_agg, asCons_cons, asInt_int, asStr_str, asSlice_slice, asPtr_ptr, asBool_bool, asNil_nil]
  refine wp_newQ fun σ2 hF2 hn2 hS2 => ?_
  refine wp_stQ hS2 rfl rfl fun σ3 hF3 hn3 hS3 => ?_
  rw [wp_call]
  refine wp_op' s0 a1 a2 σ3 fun σ4 hF4 => ?_
  rw [ho]
  simp only [asTuple_tuple, asAgg_agg, asCons_cons, asInt_int, asStr_str, asSlice_slice, asPtr_ptr, asBool_bool, asNil_nil]
  refine wp_newQ fun σ5 hF5 hn5 hS5 => ?_
  refine wp_stQ hS5 rfl rfl fun σ6 hF6 hn6 hS6 => ?_
  have hn4 := hF4.n
  have hS3b := hF6.st (hF5.stN (hF4.stN hS3)) (by omega)
  rw [wp_join, wp_bif, if_pos (by simp), wp_ldAll hS3b 7 rfl]
  simp only [asAgg_agg, asCons_cons, asInt_int, asStr_str, asSlice_slice, asPtr_ptr, asNil_nil]
  rw [wp_get, wp_call]
  refine wp_vl k n σ6 fun σ7 hF7 => ?_
  simp only [asAgg_agg, asCons_cons, asInt_int, asStr_str, asSlice_slice, asPtr_ptr, asNil_nil]
  rw [wp_ldAll (hF7.stN hS6) 8 rfl, wp_grd]
  refine ⟨past_ok (hS6.ldAll 8 rfl), ?_⟩
  simp only [asAgg_agg, asCons_cons, asInt_int, asStr_str, asSlice_slice, asPtr_ptr, asNil_nil]
  rw [wp_call]
  refine wp_same k n σ7 fun σ8 hF8 => ?_
  have hw := w63_in a1
  rw [asBool_bool, wp_bif, if_pos (by rfl), wp_call, WpF.eq (ev_wrap _ _), asInt_int, wp_call, WpF.eq (ev_wrap' _ _), asInt_int, wp_bif, if_pos (by simp), wp_call, WpF.eq (ev_wrap _ _), asInt_int,
    wp_call, WpF.eq (ev_wrap _ _), asInt_int, wp_call, WpF.eq (ev_wrap _ _), asInt_int, wp_bif, if_pos (by rw [w63_id hw]; simp), wp_call, WpF.eq (ev_wrap _ _), asInt_int, wp_bif, if_pos (by simpa using hw.1),
    wp_call, WpF.eq (ev_wrap _ _), asInt_int, wp_ret]
  simp only [T3k0, sw_same, asCons_cons, asBool_bool, asNil_nil]
  rw [wp_ret]
  exact ⟨_, rfl, by rw [decide_eq_true hw.2]⟩
end Go.Pg
