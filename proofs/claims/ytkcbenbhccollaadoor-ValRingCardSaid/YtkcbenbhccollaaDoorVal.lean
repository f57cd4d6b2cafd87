/- Layer 9: numbers reckoned with, by the program and by the document's own answer. -/
import Derived.Test.YtkcbenbhccollaaDoorBlk
namespace Go.Pg
open Go.Proofs

def W63 (x : Int) : Int := shrI .i64 (shlI .i64 x 1) 1
abbrev vV (k n : Int) : Value := .agg #[.int .i64 k, .int .i64 n, .string (bs []), .slice none 0 0, .int .i64 0, .pointer none, .int .i64 0]
abbrev vR (k n : Int) : Value := .agg #[.int .i64 k, .int .i64 n, .string (bs []), .slice none 0 0, .int .i64 0, .pointer none, .int .i64 0, .int .i64 0]

theorem ev_wrap (x : Int) (σ : AHeap) : EvF PROG ov0 10 [.int .i64 x] σ (.int .i64 (W63 x)) σ := EvF.of (T10_eq _) rfl (by rw [T10, wp_ret]; exact ⟨rfl, rfl⟩)
theorem ev_wrap' (x : Int) (σ : AHeap) : EvF PROG ov0 11 [.int .i64 x] σ (.int .i64 (W63 x)) σ := EvF.of (T11_eq _) rfl (by rw [T11, wp_ret]; exact ⟨rfl, rfl⟩)

theorem wp_number (x : Int) (σ : AHeap) {Q : Value → AHeap → Prop} (hQ : ∀ σ', Frm σ σ' NoB → Q (vV 1 (W63 x)) σ') : WpF PROG ov0 13 [.int .i64 x] σ Q := by
  refine WpF.of (T13_eq _) rfl ?_
  rw [T13]
  refine wp_newQ fun σ1 hF1 hn1 hS1 => ?_
  rw [wp_call, WpF.eq (ev_wrap x σ1), asInt_int]
  refine wp_stQ hS1 rfl rfl fun σ2 hF2 hn2 hS2 => ?_
  rw [wp_ldAll hS2 7 rfl, wp_ret]
  exact ⟨_, rfl, hQ _ (hF1.fresh hF2 fun j hj h => by omega)⟩

theorem wp_truth (b : Bool) (σ : AHeap) {Q : Value → AHeap → Prop} (hQ : ∀ σ', Frm σ σ' NoB → Q (vV 2 (if b = true then 1 else 0)) σ') : WpF PROG ov0 14 [.bool b] σ Q := by
  refine WpF.of (T14_eq _) rfl ?_
  rw [T14]
  refine wp_newQ fun σ1 hF1 hn1 hS1 => ?_
  refine wp_newQ fun σ2 hF2 hn2 hS2 => ?_
  refine wp_stQ hS2 rfl rfl fun σ3 hF3 hn3 hS3 => ?_
  have hS13 := hF3.st (hF2.stN hS1) (by omega)
  have hF : Frm σ σ3 NoB := (hF1.seq hF2).fresh hF3 fun j hj h => by omega
  rw [wp_join, wp_bif]
  by_cases hb : b = true
  · rw [if_pos hb] at hQ
    rw [if_pos hb]
    refine wp_st1Q hS3 (by decide) rfl fun σ4 hF4 hn4 hS4 => ?_
    rw [wp_ret]
    simp only [T14k0, sw_same, asNil_nil]
    rw [wp_ldAll hS4 7 rfl]
    simp only [asAgg_agg, List.set_cons_zero, List.set_cons_succ, asCons_cons, asInt_int, asStr_str, asSlice_slice, asPtr_ptr, asNil_nil]
    refine wp_stQ (hF4.st hS13 (by omega)) rfl rfl fun σ5 hF5 hn5 hS5 => ?_
    rw [wp_ldAll hS5 7 rfl, wp_ret]
    exact ⟨_, rfl, hQ _ ((hF.fresh hF4 fun j hj h => by omega).fresh hF5 fun j hj h => by omega)⟩
  · rw [if_neg hb] at hQ
    rw [if_neg hb, wp_ret]
    simp only [T14k0, sw_same, asNil_nil]
    rw [wp_ldAll hS3 7 rfl]
    simp only [asAgg_agg, asCons_cons, asInt_int, asStr_str, asSlice_slice, asPtr_ptr, asNil_nil]
    refine wp_stQ hS13 rfl rfl fun σ5 hF5 hn5 hS5 => ?_
    rw [wp_ldAll hS5 7 rfl, wp_ret]
    exact ⟨_, rfl, hQ _ (hF.fresh hF5 fun j hj h => by omega)⟩

theorem wp_truth' (b : Bool) (σ : AHeap) {Q : Value → AHeap → Prop} (hQ : ∀ σ', Frm σ σ' NoB → Q (vR 2 (if b = true then 1 else 0)) σ') : WpF PROG ov0 15 [.bool b] σ Q := by
  refine WpF.of (T15_eq _) rfl ?_
  rw [T15]
  refine wp_newQ fun σ1 hF1 hn1 hS1 => ?_
  rw [wp_bif]
  by_cases hb : b = true
  · rw [if_pos hb] at hQ
    rw [if_pos hb]
    refine wp_stQ hS1 rfl rfl fun σ2 hF2 hn2 hS2 => ?_
    rw [wp_ldAll hS2 8 rfl, wp_ret]
    exact ⟨_, rfl, hQ _ (hF1.fresh hF2 fun j hj h => by omega)⟩
  · rw [if_neg hb] at hQ
    rw [if_neg hb]
    refine wp_stQ hS1 rfl rfl fun σ2 hF2 hn2 hS2 => ?_
    rw [wp_ldAll hS2 8 rfl, wp_ret]
    exact ⟨_, rfl, hQ _ (hF1.fresh hF2 fun j hj h => by omega)⟩

/-- What Op comes to. -/
abbrev isT (s : ByteArray) (c : UInt8) : Bool := s.toList == (bs [c]).toList
def opM (s : ByteArray) (a b : Int) : Int × Int × Bool :=
  if isT s 43 = true then (1, W63 (wi64 (a + b)), true)
  else if isT s 45 = true then (1, W63 (wi64 (a - b)), true)
  else if isT s 42 = true then (1, W63 (wi64 (a * b)), true)
  else if isT s 60 = true then (2, if decide (a < b) = true then 1 else 0, true)
  else if isT s 61 = true then (2, if (a == b) = true then 1 else 0, true)
  else (0, 0, false)

theorem wp_op (s : ByteArray) (a b : Int) (σ : AHeap) {Q : Value → AHeap → Prop} (hQ : ∀ σ', Frm σ σ' NoB → Q (.tuple #[vV (opM s a b).1 (opM s a b).2.1, .bool (opM s a b).2.2]) σ') :
    WpF PROG ov0 6 [.string s, .int .i64 a, .int .i64 b] σ Q := by
  refine WpF.of (T6_eq _ _ _) rfl ?_
  rw [T6]
  refine wp_newQ fun σ1 hF1 hn1 hS1 => ?_
  rw [wp_join, wp_bif]
  unfold opM at hQ
  by_cases h1 : isT s 43 = true
  · rw [if_pos h1] at hQ
    rw [if_pos h1, wp_call]
    refine wp_number _ _ fun σ2 hF2 => ?_
    simp only [asAgg_agg, asCons_cons, asInt_int, asStr_str, asSlice_slice, asPtr_ptr, asNil_nil]
    refine wp_stQ (hF2.stN hS1) rfl rfl fun σ3 hF3 hn3 hS3 => ?_
    rw [wp_ret]
    simp only [T6k0, sw_same, asCons_cons, asBool_bool, asNil_nil]
    rw [wp_ldAll hS3 7 rfl, wp_ret]
    exact ⟨_, rfl, hQ _ ((hF1.seq hF2).fresh hF3 fun j hj h => by omega)⟩
  rw [if_neg h1] at hQ
  rw [if_neg h1, wp_bif]
  by_cases h2 : isT s 45 = true
  · rw [if_pos h2] at hQ
    rw [if_pos h2, wp_call]
    refine wp_number _ _ fun σ2 hF2 => ?_
    simp only [asAgg_agg, asCons_cons, asInt_int, asStr_str, asSlice_slice, asPtr_ptr, asNil_nil]
    refine wp_stQ (hF2.stN hS1) rfl rfl fun σ3 hF3 hn3 hS3 => ?_
    rw [wp_ret]
    simp only [T6k0, sw_same, asCons_cons, asBool_bool, asNil_nil]
    rw [wp_ldAll hS3 7 rfl, wp_ret]
    exact ⟨_, rfl, hQ _ ((hF1.seq hF2).fresh hF3 fun j hj h => by omega)⟩
  rw [if_neg h2] at hQ
  rw [if_neg h2, wp_bif]
  by_cases h3 : isT s 42 = true
  · rw [if_pos h3] at hQ
    rw [if_pos h3, wp_call]
    refine wp_number _ _ fun σ2 hF2 => ?_
    simp only [asAgg_agg, asCons_cons, asInt_int, asStr_str, asSlice_slice, asPtr_ptr, asNil_nil]
    refine wp_stQ (hF2.stN hS1) rfl rfl fun σ3 hF3 hn3 hS3 => ?_
    rw [wp_ret]
    simp only [T6k0, sw_same, asCons_cons, asBool_bool, asNil_nil]
    rw [wp_ldAll hS3 7 rfl, wp_ret]
    exact ⟨_, rfl, hQ _ ((hF1.seq hF2).fresh hF3 fun j hj h => by omega)⟩
  rw [if_neg h3] at hQ
  rw [if_neg h3, wp_bif]
  by_cases h4 : isT s 60 = true
  · rw [if_pos h4] at hQ
    rw [if_pos h4, wp_call]
    refine wp_truth _ _ fun σ2 hF2 => ?_
    simp only [asAgg_agg, asCons_cons, asInt_int, asStr_str, asSlice_slice, asPtr_ptr, asNil_nil]
    refine wp_stQ (hF2.stN hS1) rfl rfl fun σ3 hF3 hn3 hS3 => ?_
    rw [wp_ret]
    simp only [T6k0, sw_same, asCons_cons, asBool_bool, asNil_nil]
    rw [wp_ldAll hS3 7 rfl, wp_ret]
    exact ⟨_, rfl, hQ _ ((hF1.seq hF2).fresh hF3 fun j hj h => by omega)⟩
  rw [if_neg h4] at hQ
  rw [if_neg h4, wp_bif]
  by_cases h5 : isT s 61 = true
  · rw [if_pos h5] at hQ
    rw [if_pos h5, wp_call]
    refine wp_truth _ _ fun σ2 hF2 => ?_
    simp only [asAgg_agg, asCons_cons, asInt_int, asStr_str, asSlice_slice, asPtr_ptr, asNil_nil]
    refine wp_stQ (hF2.stN hS1) rfl rfl fun σ3 hF3 hn3 hS3 => ?_
    rw [wp_ret]
    simp only [T6k0, sw_same, asCons_cons, asBool_bool, asNil_nil]
    rw [wp_ldAll hS3 7 rfl, wp_ret]
    exact ⟨_, rfl, hQ _ ((hF1.seq hF2).fresh hF3 fun j hj h => by omega)⟩
  rw [if_neg h5] at hQ
  rw [if_neg h5, wp_ret]
  simp only [T6k0, sw_nr, sw_same, asCons_cons, asBool_bool, asNil_nil]
  refine wp_stQ hS1 rfl rfl fun σ3 hF3 hn3 hS3 => ?_
  rw [wp_ldAll hS3 7 rfl, wp_ret]
  exact ⟨_, rfl, hQ _ (hF1.fresh hF3 fun j hj h => by omega)⟩

theorem wp_op' (s : ByteArray) (a b : Int) (σ : AHeap) {Q : Value → AHeap → Prop} (hQ : ∀ σ', Frm σ σ' NoB → Q (.tuple #[vR (opM s a b).1 (opM s a b).2.1, .bool (opM s a b).2.2]) σ') :
    WpF PROG ov0 7 [.string s, .int .i64 a, .int .i64 b] σ Q := by
  refine WpF.of (T7_eq _ _ _) rfl ?_
  rw [T7]
  refine wp_newQ fun σ1 hF1 hn1 hS1 => ?_
  rw [wp_join, wp_bif]
  unfold opM at hQ
  by_cases h1 : isT s 43 = true
  · rw [if_pos h1] at hQ
    rw [if_pos h1, wp_call, WpF.eq (ev_wrap' _ _), asInt_int]
    refine wp_stQ hS1 rfl rfl fun σ3 hF3 hn3 hS3 => ?_
    rw [wp_ret]
    simp only [T7k0, sw_same, asCons_cons, asBool_bool, asNil_nil]
    rw [wp_ldAll hS3 8 rfl, wp_ret]
    exact ⟨_, rfl, hQ _ (hF1.fresh hF3 fun j hj h => by omega)⟩
  rw [if_neg h1] at hQ
  rw [if_neg h1, wp_bif]
  by_cases h2 : isT s 45 = true
  · rw [if_pos h2] at hQ
    rw [if_pos h2, wp_call, WpF.eq (ev_wrap' _ _), asInt_int]
    refine wp_stQ hS1 rfl rfl fun σ3 hF3 hn3 hS3 => ?_
    rw [wp_ret]
    simp only [T7k0, sw_same, asCons_cons, asBool_bool, asNil_nil]
    rw [wp_ldAll hS3 8 rfl, wp_ret]
    exact ⟨_, rfl, hQ _ (hF1.fresh hF3 fun j hj h => by omega)⟩
  rw [if_neg h2] at hQ
  rw [if_neg h2, wp_bif]
  by_cases h3 : isT s 42 = true
  · rw [if_pos h3] at hQ
    rw [if_pos h3, wp_call, WpF.eq (ev_wrap' _ _), asInt_int]
    refine wp_stQ hS1 rfl rfl fun σ3 hF3 hn3 hS3 => ?_
    rw [wp_ret]
    simp only [T7k0, sw_same, asCons_cons, asBool_bool, asNil_nil]
    rw [wp_ldAll hS3 8 rfl, wp_ret]
    exact ⟨_, rfl, hQ _ (hF1.fresh hF3 fun j hj h => by omega)⟩
  rw [if_neg h3] at hQ
  rw [if_neg h3, wp_bif]
  by_cases h4 : isT s 60 = true
  · rw [if_pos h4] at hQ
    rw [if_pos h4, wp_call]
    refine wp_truth' _ _ fun σ2 hF2 => ?_
    simp only [asAgg_agg, asCons_cons, asInt_int, asStr_str, asSlice_slice, asPtr_ptr, asNil_nil]
    refine wp_stQ (hF2.stN hS1) rfl rfl fun σ3 hF3 hn3 hS3 => ?_
    rw [wp_ret]
    simp only [T7k0, sw_same, asCons_cons, asBool_bool, asNil_nil]
    rw [wp_ldAll hS3 8 rfl, wp_ret]
    exact ⟨_, rfl, hQ _ ((hF1.seq hF2).fresh hF3 fun j hj h => by omega)⟩
  rw [if_neg h4] at hQ
  rw [if_neg h4, wp_bif]
  by_cases h5 : isT s 61 = true
  · rw [if_pos h5] at hQ
    rw [if_pos h5, wp_call]
    refine wp_truth' _ _ fun σ2 hF2 => ?_
    simp only [asAgg_agg, asCons_cons, asInt_int, asStr_str, asSlice_slice, asPtr_ptr, asNil_nil]
    refine wp_stQ (hF2.stN hS1) rfl rfl fun σ3 hF3 hn3 hS3 => ?_
    rw [wp_ret]
    simp only [T7k0, sw_same, asCons_cons, asBool_bool, asNil_nil]
    rw [wp_ldAll hS3 8 rfl, wp_ret]
    exact ⟨_, rfl, hQ _ ((hF1.seq hF2).fresh hF3 fun j hj h => by omega)⟩
  rw [if_neg h5] at hQ
  rw [if_neg h5, wp_ret]
  simp only [T7k0, sw_nr, sw_same, asCons_cons, asBool_bool, asNil_nil]
  refine wp_stQ hS1 rfl rfl fun σ3 hF3 hn3 hS3 => ?_
  rw [wp_ldAll hS3 8 rfl, wp_ret]
  exact ⟨_, rfl, hQ _ (hF1.fresh hF3 fun j hj h => by omega)⟩

/-- vl, of a value without parts. -/
theorem wp_vl (k n : Int) (σ : AHeap) {Q : Value → AHeap → Prop} (hQ : ∀ σ', Frm σ σ' NoB → Q (vR k n) σ') : WpF PROG ov0 9 [vV k n] σ Q := by
  refine WpF.of (T9_eq _ _ _ _ _ _ _ _ _) rfl ?_
  rw [T9]
  refine wp_newQ fun σ1 hF1 hn1 hS1 => ?_
  refine wp_newQ fun σ2 hF2 hn2 hS2 => ?_
  have hS1a := hF2.stN hS1
  rw [wp_ldF hS1a rfl, asInt_int, wp_ldF hS1a rfl, asInt_int, wp_ldF hS1a rfl, asStr_str, wp_ldF hS1a rfl, asInt_int, wp_ldF hS1a rfl, asInt_int]
  refine wp_newQ fun σ3 hF3 hn3 hS3 => ?_
  refine wp_stQ hS3 rfl rfl fun σ4 hF4 hn4 hS4 => ?_
  have hS1b := hF4.st (hF3.stN hS1a) (by omega)
  have hS2b := hF4.st (hF3.stN hS2) (by omega)
  have hF : Frm σ σ4 NoB := ((hF1.seq hF2).seq hF3).fresh hF4 fun j hj h => by omega
  refine Wp.count 0 (fun _ st σ' => σ' = σ4 ∧ st = [.int .i64 0]) ⟨rfl, rfl⟩ (fun j _ _ hj _ => by omega) ?_
  rintro st σ' ⟨rfl, rfl⟩
  simp only [T9b0, asCons_cons, asInt_int, asNil_nil]
  rw [wp_ldF hS1b rfl, asSlice_slice, wp_bif, if_neg (by simp), wp_ret]
  simp only [T9k1, sw_same, asCons_cons, asInt_int, asNil_nil]
  rw [wp_ldAll hS4 8 rfl]
  simp only [asAgg_agg, asCons_cons, asInt_int, asStr_str, asSlice_slice, asPtr_ptr, asNil_nil]
  refine wp_stQ hS2b rfl rfl fun σ5 hF5 hn5 hS5 => ?_
  rw [wp_ldAll hS5 8 rfl, wp_ret]
  exact ⟨_, rfl, hQ _ (hF.fresh hF5 fun j hj h => by omega)⟩

/-- Same, of two values without parts. -/
theorem wp_same (k n : Int) (σ : AHeap) {Q : Value → AHeap → Prop} (hQ : ∀ σ', Frm σ σ' NoB → Q (.bool true) σ') : WpF PROG ov0 8 [vR k n, vR k n] σ Q := by
  refine WpF.of (T8_eq _ _ _ _ _ _ _ _ _ _ _ _ _ _ _ _ _ _ _ _) rfl ?_
  rw [T8]
  refine wp_newQ fun σ1 hF1 hn1 hS1 => ?_
  refine wp_newQ fun σ2 hF2 hn2 hS2 => ?_
  have hS1a := hF2.stN hS1
  rw [wp_join, wp_ldF hS1a rfl, asInt_int, wp_ldF hS2 rfl, asInt_int, wp_bif, if_pos (by simp), wp_ldF hS1a rfl, asInt_int, wp_ldF hS2 rfl, asInt_int, wp_bif, if_pos (by simp)]
  rw [wp_ldF hS1a rfl, asStr_str, wp_ldF hS2 rfl, asStr_str, wp_bif, if_pos (by simp), wp_ldF hS1a rfl, asInt_int, wp_ldF hS2 rfl, asInt_int, wp_bif, if_pos (by simp), wp_ldF hS1a rfl, asInt_int, wp_ldF hS2 rfl, asInt_int, wp_bif, if_pos (by simp)]
  rw [wp_ldF hS1a rfl, asSlice_slice, wp_ldF hS2 rfl, asSlice_slice, wp_ret]
  simp only [T8k2, sw_same, asCons_cons, asBool_bool, asNil_nil]
  rw [wp_bif, if_neg (by simp)]
  refine Wp.count 0 (fun _ st σ' => σ' = σ2 ∧ st = [.int .i64 0, .bool false]) ⟨rfl, rfl⟩ (fun j _ _ hj _ => by omega) ?_
  rintro st σ' ⟨rfl, rfl⟩
  simp only [T8b0, asCons_cons, asInt_int, asBool_bool, asNil_nil]
  rw [wp_ldF hS1a rfl, asSlice_slice, wp_bif, if_neg (by simp), wp_ret]
  simp only [T8k1, sw_same, asCons_cons, asInt_int, asBool_bool, asNil_nil]
  rw [wp_ret]
  exact ⟨_, rfl, hQ _ (hF1.seq hF2)⟩

theorem awake9 : WpF PROG ov0 5 [] (startH (tabOld tabsD)) fun v _ => v = .bool true := WpF.tab TAB_ok 100000 (by kernel_rfl)

end Go.Pg
