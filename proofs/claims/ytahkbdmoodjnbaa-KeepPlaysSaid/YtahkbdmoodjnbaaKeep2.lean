/- Layer 22: what the other functions of keep come to; the law's own test. -/
import Derived.Test.YtahkbdmoodjnbaaKeep
namespace Go.Pg
open Go.Proofs
section
variable {σ : AHeap} {b c : Nat} {every most : Int} {l : List Int}

/-- slices.Clone, Kept. -/
theorem wp_kept (h : KS σ b c every most l) (hl : 1 ≤ l.length) (hs : l.length ≤ 1000) {Q : Value → AHeap → Prop}
    (hQ : ∀ σ' s' cap', Frm σ σ' (fun _ => False) → Row σ' σ.n 0 s' cap' 1 (ints .i64 l) → Q (Slc σ.n 0 s' l.length cap') σ') : WpF PROG ov0 29 [KP b] σ Q := by
  obtain ⟨off, s, cap, hne, hS, hR⟩ := h
  refine WpF.of (T29_eq _) rfl ?_
  rw [T29, wp_fld hS rfl, asSlice_slice, wp_call]
  refine WpF.of (T36_eq _ _ _) rfl ?_
  rw [T36, wp_bif]
  simp only [Option.isNone_some, Bool.false_eq_true, if_false]
  rw [wp_act, bdSl_eq]
  simp only [asSlice_slice]
  have hF := Frm.new σ [] 1 (fun _ => False)
  have hR1 := hF.row hR (fun h => h)
  have hN := Row.new σ 1 [] 0 (by decide) rfl (by intro x hx; cases hx)
  have hsrc := hR1.src 0 l.length (by simp)
  have hys : ((ints .i64 l).drop 0).take (l.length * 1) = ints .i64 l := by rw [List.drop_zero, List.take_of_length_le (by simp)]
  rw [hys, Nat.add_zero] at hsrc
  obtain ⟨σ', s', cap', a1, a2, a3, a4, a5⟩ := hN.append (byt := 8) (len := 0) (n := l.length) (ys := ints .i64 l) rfl (by simp) (by decide) hl (ints_one _ _) (by omega) (by omega)
  rw [wp_act, apS_some hsrc, a1]
  simp only [asSlice_slice, wp_ret, Nat.zero_add]
  refine ⟨_, rfl, _, rfl, hQ σ' s' cap' ⟨by rw [a2]; exact hF.n, by rw [a3]; exact hF.old, fun j hj _ => (a4 j (by omega)).trans (hF.get j hj (fun h => h))⟩ ?_⟩
  simpa using a5

/-- Before. -/
def best (l : List Int) (n : Int) : Nat → Int
  | 0 => 0
  | j + 1 => if l.getD j 0 ≤ n then l.getD j 0 else best l n j

theorem ev_before (h : KS σ b c every most l) (hs : l.length ≤ 1000) (n : Int) : EvF PROG ov0 30 [KP b, .int .i64 n] σ (.int .i64 (best l n l.length)) σ := by
  obtain ⟨off, s, cap, hne, hS, hR⟩ := h
  have hRd := hR.rdI
  refine EvF.of (T30_eq _ _) rfl ?_
  rw [T30, wp_fld hS rfl, asSlice_slice]
  refine Wp.count l.length (fun j st σ' => σ' = σ ∧ st = [.int .i64 ((j : Nat) : Int), .int .i64 (best l n j)]) ⟨rfl, rfl⟩ ?_ ?_
  · rintro j st σ' hj ⟨rfl, rfl⟩
    have e1 : wi64 ((j : Int) + 1) = (j : Int) + 1 := wi64_in (by omega)
    have hb : best l n (j + 1) = if l.getD j 0 ≤ n then l.getD j 0 else best l n j := rfl
    simp only [T30b0, asCons_cons, asInt_int, asNil_nil]
    rw [wp_bif, if_pos (by simp; omega), wp_join, wp_rdI hRd (by omega) (by omega)]
    simp only [Int.toNat_natCast]
    rw [wp_join, wp_bif, hb]
    by_cases hc : l.getD j 0 ≤ n
    · rw [if_pos (by simpa using hc), if_pos hc]
      simp [wp_ret, T30k0, T30k1, sw_same, asCons_cons, asInt_int, asNil_nil, e1]
    · rw [if_neg (by simpa using hc), if_neg hc]
      simp [wp_ret, T30k0, T30k1, sw_same, asCons_cons, asInt_int, asNil_nil, e1]
  · rintro st σ' ⟨rfl, rfl⟩
    simp only [T30b0, asCons_cons, asInt_int, asNil_nil]
    rw [wp_bif, if_neg (by simp)]
    simp [wp_ret, T30k2, sw_same, asCons_cons, asInt_int, asNil_nil]

/-- Gap. -/
def gapM (l : List Int) : Nat → Int
  | 0 => 0
  | j + 1 => maxV (gapM l j) (wi64 (l.getD (j + 1) 0 - l.getD j 0))

theorem ev_gap (h : KS σ b c every most l) (hl : 1 ≤ l.length) (hs : l.length ≤ 1000) : EvF PROG ov0 32 [KP b] σ (.int .i64 (gapM l (l.length - 1))) σ := by
  obtain ⟨off, s, cap, hne, hS, hR⟩ := h
  have hRd := hR.rdI
  refine EvF.of (T32_eq _) rfl ?_
  rw [T32]
  refine Wp.count (l.length - 1) (fun j st σ' => σ' = σ ∧ st = [.int .i64 ((j : Int) + 1), .int .i64 (gapM l j)]) ⟨rfl, rfl⟩ ?_ ?_
  · rintro j st σ' hj ⟨rfl, rfl⟩
    have e0 : wi64 ((j : Int) + 1 - 1) = ((j : Nat) : Int) := by rw [wi64_in (by omega)]; omega
    have e1 : wi64 ((j : Int) + 1 + 1) = (j : Int) + 1 + 1 := wi64_in (by omega)
    have e2 : Int.toNat ((j : Int) + 1) = j + 1 := by omega
    simp only [T32b0, asCons_cons, asInt_int, asNil_nil, e0]
    rw [wp_fld hS rfl, asSlice_slice, wp_bif, if_pos (by simp; omega), wp_join, wp_fld hS rfl, asSlice_slice, wp_rdI hRd (by omega) (by omega), wp_fld hS rfl, asSlice_slice, wp_rdI hRd (by omega) (by omega)]
    simp only [Int.toNat_natCast, e2]
    have hg : gapM l (j + 1) = maxV (gapM l j) (wi64 (l.getD (j + 1) 0 - l.getD j 0)) := rfl
    simp [wp_ret, T32k0, sw_same, asCons_cons, asInt_int, asNil_nil, e1, hg]
  · rintro st σ' ⟨rfl, rfl⟩
    simp only [T32b0, asCons_cons, asInt_int, asNil_nil]
    rw [wp_fld hS rfl, asSlice_slice, wp_bif, if_neg (by simp; omega)]
    simp [wp_ret, T32k1, sw_same, asCons_cons, asInt_int, asNil_nil]
end

theorem getD_ext {l m : List Int} (hl : l.length = m.length) (h : ∀ i, i < l.length → l.getD i 0 = m.getD i 0) : l = m := by
  apply List.ext_getElem hl
  intro i h1 h2
  have := h i h1
  simpa [List.getD, h1, h2] using this

/-- counts: are two rows alike? -/
theorem ev_counts {σ : AHeap} {p q : Option Addr} {l m : List Int} (hp : RdI σ .i64 p l) (hq : RdI σ .i64 q m) (hs : l.length ≤ 1000) (c1 c2 : Nat) :
    EvF PROG ov0 28 [.slice p l.length c1, .slice q m.length c2] σ (.bool (decide (l = m))) σ := by
  refine EvF.of (T28_eq _ _ _ _ _ _) rfl ?_
  rw [T28, wp_bif]
  by_cases hlen : l.length = m.length
  · rw [if_neg (by simp [hlen])]
    refine Wp.count l.length (fun j st σ' => σ' = σ ∧ st = [.int .i64 ((j : Nat) : Int), .bool false] ∧ ∀ i, i < j → l.getD i 0 = m.getD i 0) ⟨rfl, rfl, fun i hi => by omega⟩ ?_ ?_
    · rintro j st σ' hj ⟨rfl, rfl, hall⟩
      have e1 : wi64 ((j : Int) + 1) = (j : Int) + 1 := wi64_in (by omega)
      simp only [T28b0, asCons_cons, asInt_int, asBool_bool, asNil_nil]
      rw [wp_bif, if_pos (by simp; omega), wp_join, wp_rdI hp (by omega) (by omega), wp_rdI hq (by omega) (by omega)]
      simp only [Int.toNat_natCast]
      rw [wp_bif]
      by_cases hc : l.getD j 0 = m.getD j 0
      · rw [if_neg (by simp only [bne_iff_ne, ne_eq, hc, not_true_eq_false, not_false_eq_true])]
        simp only [wp_ret, T28k0, sw_nr, sw_same, asCons_cons, asBool_bool, asNil_nil, e1]
        refine ⟨trivial, by simp, fun i hi => ?_⟩
        by_cases hij : i = j
        · subst hij; exact hc
        · exact hall i (by omega)
      · rw [if_pos (by simpa only [bne_iff_ne, ne_eq] using hc)]
        simp only [wp_ret, T28k0, T28k1, sw_same, sw_re, asCons_cons, asInt_int, asBool_bool, asNil_nil]
        have : ¬ l = m := fun e => hc (by rw [e])
        simp [this]
    · rintro st σ' ⟨rfl, rfl, hall⟩
      have : l = m := getD_ext hlen hall
      simp only [T28b0, asCons_cons, asInt_int, asBool_bool, asNil_nil]
      rw [wp_bif, if_neg (by simp)]
      simp [wp_ret, T28k1, sw_same, asCons_cons, asInt_int, asBool_bool, asNil_nil, this]
  · rw [if_pos (by simp; omega), wp_ret]
    have : ¬ l = m := fun e => hlen (by rw [e])
    simp [this]

/-- New. -/
def mayNew (every most : Int) : Bool := decide (1 ≤ every ∧ every ≤ 1000000 ∧ 2 ≤ most ∧ most ≤ 64)
theorem new_test (every most : Int) : ((((decide (every < 1)) || (decide (every > 1000000))) || (decide (most < 2))) || (decide (most > 64))) = !mayNew every most := by
  unfold mayNew
  rw [Bool.eq_iff_iff]
  simp only [Bool.or_eq_true, decide_eq_true_eq, Bool.not_eq_true', decide_eq_false_iff_not]
  omega
theorem ev_new_no (σ : AHeap) {every most : Int} (h : mayNew every most = false) : EvF PROG ov0 23 [.int .i64 every, .int .i64 most] σ (.tuple #[.pointer none, .int .i64 1]) σ := by
  refine EvF.of (T23_eq _ _) rfl ?_
  rw [T23, wp_bif, new_test, h]
  simp [wp_ret]
theorem wp_new (σ : AHeap) {every most : Int} (h : mayNew every most = true) {Q : Value → AHeap → Prop}
    (hQ : ∀ σ', Frm σ σ' (fun _ => False) → KS σ' (σ.n + 1) σ.n every most [0] → Q (.tuple #[KP (σ.n + 1), .int .i64 0]) σ') : WpF PROG ov0 23 [.int .i64 every, .int .i64 most] σ Q := by
  refine WpF.of (T23_eq _ _) rfl ?_
  rw [T23, wp_bif, new_test, h]
  simp only [Bool.not_true, Bool.false_eq_true, if_false]
  rw [wp_act, bdSl_eq]
  simp only [asSlice_slice]
  rw [wp_act, newC_eq]
  simp only [asPtr_ptr, asSome_some, wp_ret]
  have hF := Frm.new σ [.int .i64 0] 1 (fun _ => False)
  have hN := Row.new σ 1 [.int .i64 0] 1 (by decide) rfl (by intro x hx; simp at hx; subst hx; rfl)
  have hF2 := Frm.new (σ.newBlk [.int .i64 0] 1) [.int .i64 every, .int .i64 most, .slice (some ⟨σ.n, 0, some 1⟩) 1 1] 0 (fun _ => False)
  refine ⟨_, rfl, hQ _ (hF.trans hF2 (fun _ _ h => h) (fun _ _ h => h)) ⟨0, 1, 1, by omega, St.new _ _, hF2.row hN (fun h => h)⟩⟩
end Go.Pg
