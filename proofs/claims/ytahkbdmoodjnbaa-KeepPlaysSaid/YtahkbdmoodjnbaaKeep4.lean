/- Layer 22: the document's own keeper comes to the same. -/
import Derived.Test.YtahkbdmoodjnbaaKeepBefore
namespace Go.Pg
open Go.Proofs
section
variable {σ : AHeap} {b c : Nat} {every most : Int} {l : List Int}

theorem ev_wants' (h : KS σ b c every most l) (hl : 1 ≤ l.length) (hs : l.length ≤ 1000) (he : every ≠ 0) (h0 : 0 ≤ lastI l) (n : Int) : EvF PROG ov0 25 [KP b, .int .i64 n] σ (.bool (wants every l n)) σ := by
  obtain ⟨off, s, cap, hne, hS, hR⟩ := h
  refine EvF.of (T25_eq _ _) rfl ?_
  have e : wi64 ((l.length : Int) - 1) = l.length - 1 := wi64_in (by omega)
  have e2 : ((l.length : Int) - 1).toNat = l.length - 1 := by omega
  have e3 : l.getD (l.length - 1) 0 = lastI l := rfl
  unfold wants
  rw [T25, wp_join, wp_bif]
  by_cases h1 : n ≥ 0
  · rw [if_pos (by rw [decide_eq_true h1]; rfl), wp_fld hS rfl, asInt_int, wp_grd]
    refine ⟨by simpa using he, ?_⟩
    rw [wp_bif]
    by_cases h2 : Int.tmod n every = 0
    · rw [if_pos (by rw [h2]; rfl), wp_fld hS rfl, asSlice_slice, wp_fld hS rfl, asSlice_slice, e, wp_rdI hR.rdI (by omega) (by omega), wp_ret, e2, e3]
      simp [wp_ret, T25k0, sw_same, asCons_cons, asBool_bool, asNil_nil, h2]
    · rw [if_neg (by simpa using h2), wp_ret]
      simp [wp_ret, T25k0, sw_same, asCons_cons, asBool_bool, asNil_nil, h2]
  · rw [if_neg (by rw [decide_eq_false h1]; simp), wp_ret]
    have : ¬ n > lastI l := by omega
    simp [wp_ret, T25k0, sw_same, asCons_cons, asBool_bool, asNil_nil, this]

theorem ev_before' (h : KS σ b c every most l) (hs : l.length ≤ 1000) (n : Int) : EvF PROG ov0 31 [KP b, .int .i64 n] σ (.int .i64 (best l n l.length)) σ := by
  obtain ⟨off, s, cap, hne, hS, hR⟩ := h
  have hRd := hR.rdI
  refine EvF.of (T31_eq _ _) rfl ?_
  rw [T31]
  refine Wp.count l.length (fun j st σ' => σ' = σ ∧ st = [.int .i64 ((j : Nat) : Int), .int .i64 (best l n j)]) ⟨rfl, rfl⟩ ?_ ?_
  · rintro j st σ' hj ⟨rfl, rfl⟩
    have e1 : wi64 ((j : Int) + 1) = (j : Int) + 1 := wi64_in (by omega)
    have hb : best l n (j + 1) = if l.getD j 0 ≤ n then l.getD j 0 else best l n j := rfl
    simp only [T31b0, asCons_cons, asInt_int, asNil_nil]
    rw [wp_fld hS rfl, asSlice_slice, wp_bif, if_pos (by simp; omega), wp_join, wp_fld hS rfl, asSlice_slice, wp_rdI hRd (by omega) (by omega)]
    simp only [Int.toNat_natCast]
    rw [wp_join, wp_bif, hb]
    by_cases hc : l.getD j 0 ≤ n
    · rw [if_pos (decide_eq_true hc), if_pos hc, wp_fld hS rfl, asSlice_slice, wp_rdN hRd (Int.toNat_natCast j) (by omega) (by omega)]
      simp [wp_ret, T31k0, T31k1, sw_same, asCons_cons, asInt_int, asNil_nil, e1]
    · rw [if_neg (by rw [decide_eq_false hc]; simp), if_neg hc]
      simp [wp_ret, T31k0, T31k1, sw_same, asCons_cons, asInt_int, asNil_nil, e1]
  · rintro st σ' ⟨rfl, rfl⟩
    simp only [T31b0, asCons_cons, asInt_int, asNil_nil]
    rw [wp_fld hS rfl, asSlice_slice, wp_bif, if_neg (by simp)]
    simp [wp_ret, T31k2, sw_same, asCons_cons, asInt_int, asNil_nil]

theorem ev_gap' (h : KS σ b c every most l) (hl : 1 ≤ l.length) (hs : l.length ≤ 1000) : EvF PROG ov0 33 [KP b] σ (.int .i64 (gapM l (l.length - 1))) σ := by
  obtain ⟨off, s, cap, hne, hS, hR⟩ := h
  have hRd := hR.rdI
  refine EvF.of (T33_eq _) rfl ?_
  rw [T33]
  refine Wp.count (l.length - 1) (fun j st σ' => σ' = σ ∧ st = [.int .i64 ((j : Int) + 1), .int .i64 (gapM l j)]) ⟨rfl, rfl⟩ ?_ ?_
  · rintro j st σ' hj ⟨rfl, rfl⟩
    have e0 : wi64 ((j : Int) + 1 - 1) = ((j : Nat) : Int) := by rw [wi64_in (by omega)]; omega
    have e1 : wi64 ((j : Int) + 1 + 1) = (j : Int) + 1 + 1 := wi64_in (by omega)
    have e2 : Int.toNat ((j : Int) + 1) = j + 1 := by omega
    have hg : gapM l (j + 1) = maxV (gapM l j) (wi64 (l.getD (j + 1) 0 - l.getD j 0)) := rfl
    simp only [T33b0, asCons_cons, asInt_int, asNil_nil, e0]
    rw [wp_fld hS rfl, asSlice_slice, wp_bif, if_pos (by simp; omega), wp_join, wp_fld hS rfl, asSlice_slice, wp_rdI hRd (by omega) (by omega), wp_fld hS rfl, asSlice_slice, wp_rdI hRd (by omega) (by omega)]
    simp only [Int.toNat_natCast, e2]
    rw [wp_join, wp_bif, hg]
    unfold maxV
    by_cases hc : wi64 (l.getD (j + 1) 0 - l.getD j 0) > gapM l j
    · rw [if_pos (decide_eq_true hc), if_pos hc, wp_fld hS rfl, asSlice_slice, wp_rdN hRd e2 (by omega) (by omega), wp_fld hS rfl, asSlice_slice, wp_rdN hRd (Int.toNat_natCast j) (by omega) (by omega)]
      simp [wp_ret, T33k0, T33k1, sw_same, asCons_cons, asInt_int, asNil_nil, e1]
    · rw [if_neg (by rw [decide_eq_false hc]; simp), if_neg hc]
      simp [wp_ret, T33k0, T33k1, sw_same, asCons_cons, asInt_int, asNil_nil, e1]
  · rintro st σ' ⟨rfl, rfl⟩
    simp only [T33b0, asCons_cons, asInt_int, asNil_nil]
    rw [wp_fld hS rfl, asSlice_slice, wp_bif, if_neg (by simp; omega)]
    simp [wp_ret, T33k2, sw_same, asCons_cons, asInt_int, asNil_nil]

theorem ev_add_no' (h : KS σ b c every most l) (hl : 1 ≤ l.length) (hs : l.length ≤ 900) (he : every ≠ 0) (h0 : 0 ≤ lastI l) (n : Int) (hw : wants every l n = false) :
    EvF PROG ov0 27 [KP b, .int .i64 n] σ (.tuple #[.slice none 0 0, .int .i64 1]) σ := by
  have hwn := ev_wants' h hl (by omega) he h0 n
  refine EvF.of (T27_eq _ _) rfl ?_
  rw [T27, wp_call, WpF.eq hwn, asBool_bool, hw, wp_bif]
  simp [wp_ret]

/-- What the document's Add does where it adds: the row is made anew. -/
def Added' (σ : AHeap) (b : Nat) (every most : Int) (L : List Int) (v : Value) (σ' : AHeap) : Prop :=
  Frm σ σ' (fun j => j = b) ∧ ∃ c', σ.n ≤ c' ∧
  if (L.length : Int) ≤ most then v = .tuple #[.slice none 0 0, .int .i64 0] ∧ KS σ' b c' every most L
  else ∃ g, σ.n ≤ g ∧ v = .tuple #[Slc g 0 1 1 1, .int .i64 0] ∧ Row σ' g 0 1 1 1 (ints .i64 [L.getD (pick L (L.length - 2)) 0]) ∧ KS σ' b c' every most (L.eraseIdx (pick L (L.length - 2)))

/-- A row is filled anew out of another. -/
theorem wp_copy {σ : AHeap} {c off s cap : Nat} {l : List Int} (hR : Row σ c off s cap 1 (ints .i64 l)) (hl : 1 ≤ l.length) (hs : l.length ≤ 1000) (n cap' : Nat) (hn : n = l.length) (g : Value → Pg) (Q : Post) {d s' c' : Nat} (hN : Row σ d 0 s' c' 1 [])
    (h : ∀ σ' s' cap', Frm σ σ' (· = d) → σ'.n = σ.n → Row σ' d 0 s' cap' 1 (ints .i64 l) → Wp PROG ov0 (g (Slc d 0 s' l.length cap')) σ' Q) :
    Wp PROG ov0 (.act (apS 1 8 (some ⟨d, 0, some s'⟩) 0 c' (some ⟨c, off, some s⟩) n cap') g) σ Q := by
  subst hn
  have hsrc := hR.src 0 l.length (by simp)
  have hys : ((ints .i64 l).drop 0).take (l.length * 1) = ints .i64 l := by rw [List.drop_zero, List.take_of_length_le (by simp)]
  rw [hys, Nat.add_zero] at hsrc
  obtain ⟨σ', s2, cap2, a1, a2, a3, a4, a5⟩ := hN.append (byt := 8) (len := 0) (n := l.length) (ys := ints .i64 l) rfl (by simp) (by decide) hl (ints_one _ _) (by omega) (by omega)
  rw [wp_act, apS_some hsrc, a1]
  simp only [Nat.zero_add]
  exact h σ' s2 cap2 ⟨by omega, a3, fun j _ hj => a4 j hj⟩ a2 (by simpa using a5)

theorem wp_add' (h : KS σ b c every most l) (hl : 1 ≤ l.length) (hs : l.length ≤ 900) (he : every ≠ 0) (hm : 2 ≤ most) (h0 : 0 ≤ lastI l) (n : Int) (hw : wants every l n = true) {Q : Value → AHeap → Prop}
    (hQ : ∀ v σ', Added' σ b every most (l ++ [n]) v σ' → Q v σ') : WpF PROG ov0 27 [KP b, .int .i64 n] σ Q := by
  have hwn := ev_wants' h hl (by omega) he h0 n
  obtain ⟨off, s, cap, hne, hS, hR⟩ := h
  refine WpF.of (T27_eq _ _) rfl ?_
  rw [T27, wp_call, WpF.eq hwn, asBool_bool, hw, wp_bif]
  simp only [Bool.not_true, Bool.false_eq_true, if_false]
  rw [wp_act, bdSl_eq]
  simp only [asSlice_slice]
  have hFa := Frm.new σ [] 1 (fun _ => False)
  have hSa := hFa.st hS (fun h => h)
  have hRa := hFa.row hR (fun h => h)
  have hNa := Row.new σ 1 [] 0 (by decide) rfl (by intro x hx; cases hx)
  have hbn : b < σ.n := hS.1
  rw [wp_fld hSa rfl, asSlice_slice]
  refine wp_copy hRa hl (by omega) _ _ rfl _ _ hNa fun σb sb capb hFb hnb hRb => ?_
  simp only [asSlice_slice]
  refine wp_app1 hRb (by omega) n _ _ fun σ1 s1 cap1 hF hR1 => ?_
  simp only [asSlice_slice]
  have hFab : Frm σ σ1 (fun _ => False) := hFa.trans (hFb.trans hF (U := fun j => j = σ.n) (fun _ _ h => h) (fun _ _ h => h)) (fun _ _ h => h) (fun j hj h => by omega)
  have hS1 := hFab.st hS (fun h => h)
  have hnc : σ.n ≠ b := by omega
  rw [wp_set hS1 (by simp) rfl]
  generalize hσ2 : σ1.put b (.blk ⟨[.int .i64 every, .int .i64 most, Slc c off s l.length cap].set (0 + 2) (Slc σ.n 0 s1 (l.length + 1) cap1), 0, [[Value.int .i64 every, .int .i64 most, Slc c off s l.length cap].length], 0⟩) = σ2
  have hlen : (l ++ [n]).length = l.length + 1 := by simp
  have hS2 : St σ2 b [.int .i64 every, .int .i64 most, Slc σ.n 0 s1 (l ++ [n]).length cap1] := by
    subst hσ2
    rw [hlen]
    exact hS1.put rfl
  have hF2 : Frm σ1 σ2 (· = b) := by subst hσ2; exact Frm.put _ _ _
  have hR2 := hF2.row hR1 hnc
  have hF02 : Frm σ σ2 (fun j => j = b) := hFab.trans hF2 (fun _ _ h => h.elim) (fun _ _ h => h)
  clear hσ2
  rw [show l.length + 1 = (l ++ [n]).length from hlen.symm]
  generalize hL : l ++ [n] = L at *
  simp only [asTuple_tuple, asNil_nil]
  rw [wp_fld hS2 rfl, asInt_int, wp_bif]
  by_cases hle : (L.length : Int) ≤ most
  · rw [if_pos (by simpa using hle), wp_ret]
    exact ⟨_, rfl, hQ _ _ ⟨hF02, σ.n, Nat.le_refl _, by rw [if_pos hle]; exact ⟨rfl, 0, s1, cap1, hnc, hS2, hR2⟩⟩⟩
  · rw [if_neg (by simpa using hle)]
    have hL3 : 3 ≤ L.length := by omega
    have hRd := hR2.rdI
    have ew : wi64 ((L.length : Int) - 1) = L.length - 1 := wi64_in (by omega)
    have hp1 : pick L 1 = 1 := by
      show (if gapAt L 1 < gapAt L (pick L 0) then 1 else pick L 0) = 1
      split <;> rfl
    refine Wp.count (L.length - 3) (fun j st σ' => σ' = σ2 ∧ st = [.int .i64 ((j : Int) + 2), .int .i64 ((pick L (j + 1) : Nat) : Int)]) ⟨rfl, by rw [hp1]; rfl⟩ ?_ ?_
    · rintro j st σ' hj ⟨rfl, rfl⟩
      have hp := pick_le L (j + 1)
      have e1 : wi64 ((j : Int) + 2 + 1) = ((j + 3 : Nat) : Int) := by rw [wi64_in (by omega)]; omega
      have e2 : wi64 ((j : Int) + 2 - 1) = ((j + 1 : Nat) : Int) := by rw [wi64_in (by omega)]; omega
      have e3 : wi64 (((pick L (j + 1) : Nat) : Int) + 1) = ((pick L (j + 1) + 1 : Nat) : Int) := by rw [wi64_in (by omega)]; omega
      have e4 : wi64 (((pick L (j + 1) : Nat) : Int) - 1) = ((pick L (j + 1) - 1 : Nat) : Int) := by rw [wi64_in (by omega)]; omega
      simp only [T27b0, asCons_cons, asInt_int, asNil_nil]
      rw [wp_bif, if_pos (by rw [ew]; simp; omega), wp_join]
      simp only [e1, e2, e3, e4]
      rw [wp_rdI hRd (by omega) (by omega), wp_rdI hRd (by omega) (by omega), wp_rdI hRd (by omega) (by omega), wp_rdI hRd (by omega) (by omega)]
      simp only [Int.toNat_natCast]
      have hg1 : wi64 (L.getD (j + 3) 0 - L.getD (j + 1) 0) = gapAt L (j + 2) := rfl
      have hg2 : wi64 (L.getD (pick L (j + 1) + 1) 0 - L.getD (pick L (j + 1) - 1) 0) = gapAt L (pick L (j + 1)) := rfl
      have hpk : pick L (j + 1 + 1) = if gapAt L (j + 2) < gapAt L (pick L (j + 1)) then j + 2 else pick L (j + 1) := rfl
      simp only [hg1, hg2]
      rw [wp_join, wp_bif, hpk]
      by_cases hc : gapAt L (j + 2) < gapAt L (pick L (j + 1))
      · rw [if_pos (by simpa using hc), if_pos hc]
        simp only [wp_ret, T27k0, T27k1, sw_same, asCons_cons, asInt_int, asNil_nil, e1]
        exact ⟨trivial, by simp; omega⟩
      · rw [if_neg (by simpa using hc), if_neg hc]
        simp only [wp_ret, T27k0, T27k1, sw_same, asCons_cons, asInt_int, asNil_nil, e1]
        exact ⟨trivial, by simp; omega⟩
    · rintro st σ' ⟨rfl, rfl⟩
      have h32 : L.length - 3 + 1 = L.length - 2 := by omega
      have hp := pick_le L (L.length - 2)
      rw [h32]
      generalize ha : pick L (L.length - 2) = a at hp ⊢
      simp only [T27b0, asCons_cons, asInt_int, asNil_nil]
      rw [wp_bif, if_neg (by rw [ew]; simp; omega), wp_ret]
      simp only [T27k2, sw_same, asCons_cons, asInt_int, asNil_nil]
      rw [wp_rdI hRd (by omega) (by omega), wp_act, bdSl_eq]
      simp only [asSlice_slice, Int.toNat_natCast]
      have hcap := hR2.len
      simp only [ints, List.length_map, Nat.mul_one] at hcap
      have hmay : mayCut (some ⟨σ.n, 0, some s1⟩) 1 = true := by simp [mayCut, hR2.sesz]
      have ea : wi64 ((a : Int) + 1) = (a : Int) + 1 := wi64_in (by omega)
      have et : Int.toNat ((a : Int) + 1) = a + 1 := by omega
      rw [wp_grd]
      refine ⟨by simp only [Bool.or_true, Bool.and_true, Bool.and_eq_true, decide_eq_true_eq]; omega, ?_⟩
      have hF3 := Frm.new σ' [] 1 (fun _ => False)
      have hN3 := Row.new σ' 1 [] 0 (by decide) rfl (by intro x hx; cases hx)
      have hR3 := hF3.row hR2 (fun h => h)
      have hS3 := hF3.st hS2 (fun h => h)
      have hRt := hR3.take a
      rw [← List.map_take] at hRt
      have hlt : (L.take a).length = a := by simp; omega
      refine wp_copy hRt (by omega) (by omega) _ _ hlt.symm _ _ hN3 fun σ4 s4 cap4 hF4 hn4 hR4 => ?_
      rw [hlt]
      simp only [asSlice_slice]
      have hg' : σ'.n ≠ σ.n := by have := hR2.lt; omega
      have hgb : σ'.n ≠ b := by have := hS2.1; omega
      have hR5 := hF4.row hR3 (fun e => hg' e.symm)
      have hS4 := hF4.st hS3 (fun e => hgb e.symm)
      rw [ea, et, wp_grd]
      refine ⟨by simp only [hmay, Bool.true_or, Bool.and_true, Bool.and_eq_true, decide_eq_true_eq]; omega, ?_⟩
      have hsrc := hR5.src (a + 1) (L.length - (a + 1)) (by simp; omega)
      have hys : ((ints .i64 L).drop (a + 1)).take ((L.length - (a + 1)) * 1) = ints .i64 (L.drop (a + 1)) := by
        rw [List.take_of_length_le (by simp), ← List.map_drop]
      rw [hys] at hsrc
      have e1 : cutS (some ⟨σ.n, 0, some s1⟩) ((a + 1) * 1) = some ⟨σ.n, 0 + (a + 1), some s1⟩ := by simp [cutS, aadd]
      obtain ⟨σ5, s5, cap5, b1, b2, b3, b4, b5⟩ := hR4.append (byt := 8) (len := a) (n := L.length - (a + 1)) (ys := ints .i64 (L.drop (a + 1))) (by simp; omega) (by simp) (by decide) (by omega) (ints_one _ _) (by omega) (by omega)
      rw [e1, wp_act, apS_some hsrc, b1]
      simp only [asSlice_slice]
      have hF5 : Frm σ4 σ5 (· = σ'.n) := ⟨by omega, b3, fun j _ hj => b4 j hj⟩
      have hS5 := hF5.st hS4 (fun e => hgb e.symm)
      rw [wp_set hS5 (by simp) rfl]
      generalize hσ6 : σ5.put b (.blk ⟨[.int .i64 every, .int .i64 most, Slc σ.n 0 s1 L.length cap1].set (0 + 2) (Slc σ'.n 0 s5 (a + (L.length - (a + 1))) cap5), 0, [[Value.int .i64 every, .int .i64 most, Slc σ.n 0 s1 L.length cap1].length], 0⟩) = σ6
      have hel : a + (L.length - (a + 1)) = (L.eraseIdx a).length := by rw [List.length_eraseIdx_of_lt (by omega)]; omega
      have hS6 : St σ6 b [.int .i64 every, .int .i64 most, Slc σ'.n 0 s5 (L.eraseIdx a).length cap5] := by
        subst hσ6
        rw [hel]
        exact hS5.put rfl
      have hF6 : Frm σ5 σ6 (· = b) := by subst hσ6; exact Frm.put _ _ _
      clear hσ6
      have hR6 : Row σ6 σ'.n 0 s5 cap5 1 (ints .i64 (L.eraseIdx a)) := by
        have : ints .i64 (L.eraseIdx a) = ints .i64 (L.take a) ++ ints .i64 (L.drop (a + 1)) := by rw [List.eraseIdx_eq_take_drop_succ]; simp [ints]
        rw [this]
        exact hF6.row b5 hgb
      simp only [asTuple_tuple, asNil_nil]
      rw [wp_act, bdSl_eq]
      simp only [asSlice_slice, wp_ret]
      have hF7 := Frm.new σ6 [.int .i64 (L.getD a 0)] 1 (fun _ => False)
      have hN7 := Row.new σ6 1 [.int .i64 (L.getD a 0)] 1 (by decide) rfl (by intro x hx; simp at hx; subst hx; rfl)
      have hF26 : Frm σ' σ6 (fun j => j = b) := hF3.trans (hF4.trans (hF5.trans hF6 (U := fun j => j = b ∨ j = σ'.n) (fun _ _ h => .inr h) (fun _ _ h => .inl h)) (U := fun j => j = b ∨ j = σ'.n) (fun _ _ h => .inr h) (fun _ _ h => h)) (fun _ _ h => h.elim) (fun j hj h => by omega)
      have hF27 : Frm σ' _ (fun j => j = b) := hF26.trans hF7 (fun _ _ h => h) (fun _ _ h => h.elim)
      have hn6 := hF26.n
      have hn0 := hF02.n
      refine ⟨_, rfl, hQ _ _ ⟨hF02.trans hF27 (fun _ _ h => h) (fun _ _ h => h), σ'.n, hn0, ?_⟩⟩
      rw [if_neg hle, ha]
      exact ⟨σ6.n, by omega, rfl, hN7, 0, s5, cap5, hgb, hF7.st hS6 (fun h => h), hF7.row hR6 (fun h => h)⟩
end
end Go.Pg
