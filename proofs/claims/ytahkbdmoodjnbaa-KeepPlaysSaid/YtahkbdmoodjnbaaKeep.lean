/- Layer 22: what each function of keep comes to. -/
import Derived.Test.YtahkbdmoodjnbaaT2
namespace Go.Pg
open Go.Proofs

abbrev ov0 : Ov := fun _ => none
abbrev KP (b : Nat) : Value := .pointer (some ⟨b, 0, some 0⟩)
abbrev Slc (c off s n cap : Nat) : Value := .slice (some ⟨c, off, some s⟩) n cap

/-- A keeper at block b, its row at block c. -/
def KS (σ : AHeap) (b c : Nat) (every most : Int) (l : List Int) : Prop :=
  ∃ off s cap, c ≠ b ∧ St σ b [.int .i64 every, .int .i64 most, Slc c off s l.length cap] ∧ Row σ c off s cap 1 (ints .i64 l)

def lastI (l : List Int) : Int := l.getD (l.length - 1) 0

theorem KS.frm {σ σ' : AHeap} {S : Nat → Prop} {b c : Nat} {every most : Int} {l : List Int} (h : KS σ b c every most l) (f : Frm σ σ' S) (hb : ¬ S b) (hc : ¬ S c) : KS σ' b c every most l := by
  obtain ⟨off, s, cap, hne, hS, hR⟩ := h
  exact ⟨off, s, cap, hne, f.st hS hb, f.row hR hc⟩

section
variable {σ : AHeap} {b c : Nat} {every most : Int} {l : List Int}

theorem ev_newest (h : KS σ b c every most l) (hl : 1 ≤ l.length) (hs : l.length ≤ 1000) : EvF PROG ov0 34 [KP b] σ (.int .i64 (lastI l)) σ := by
  obtain ⟨off, s, cap, hne, hS, hR⟩ := h
  refine EvF.of (T34_eq _) rfl ?_
  have e : wi64 ((l.length : Int) - 1) = l.length - 1 := wi64_in (by omega)
  have e2 : ((l.length : Int) - 1).toNat = l.length - 1 := by omega
  rw [T34, wp_fld hS rfl, asSlice_slice, wp_fld hS rfl, asSlice_slice, e, wp_rdI hR.rdI (by omega) (by omega), wp_ret, e2]
  exact ⟨rfl, rfl⟩

def wants (every : Int) (l : List Int) (n : Int) : Bool := decide (n > lastI l) && (Int.tmod n every == 0)

theorem ev_wants (h : KS σ b c every most l) (hl : 1 ≤ l.length) (hs : l.length ≤ 1000) (he : every ≠ 0) (n : Int) : EvF PROG ov0 24 [KP b, .int .i64 n] σ (.bool (wants every l n)) σ := by
  have hn := ev_newest h hl hs
  obtain ⟨off, s, cap, hne, hS, hR⟩ := h
  refine EvF.of (T24_eq _ _) rfl ?_
  rw [T24, wp_join, wp_call, WpF.eq hn, asInt_int, wp_bif]
  unfold wants
  split
  · rename_i hc
    rw [wp_fld hS rfl, asInt_int, wp_grd]
    refine ⟨by simpa using he, ?_⟩
    have hc' : decide (n > lastI l) = true := by simpa using hc
    simp [wp_ret, T24k0, sw_same, asCons_cons, asBool_bool, asNil_nil, hc']
  · rename_i hc
    have hc' : decide (n > lastI l) = false := by simpa using hc
    simp [wp_ret, T24k0, sw_same, asCons_cons, asBool_bool, asNil_nil, hc']

/-- slices.Delete of one. -/
theorem wp_delete {σ : AHeap} {c off s cap : Nat} {L : List Int} (hR : Row σ c off s cap 1 (ints .i64 L)) (at' : Nat) (h1 : at' + 1 < L.length) (h2 : L.length ≤ 1000) {Q : Value → AHeap → Prop}
    (hQ : ∀ σ', Frm σ σ' (· = c) → σ'.n = σ.n → Row σ' c off s cap 1 (ints .i64 (L.eraseIdx at')) → Q (Slc c off s (L.length - 1) cap) σ') :
    WpF PROG ov0 35 [Slc c off s L.length cap, .int .i64 (at' : Nat), .int .i64 ((at' : Int) + 1)] σ Q := by
  have hcap : L.length ≤ cap := by have := hR.len; simpa using this
  have hsz := hR.sesz
  refine WpF.of (T35_eq _ _ _ _ _) rfl ?_
  have hmay : mayCut (some ⟨c, off, some s⟩) 1 = true := by simp [mayCut, hsz]
  have hn0 : L.length ≠ 0 := by omega
  have g1 : (((((decide ((0 : Int) ≤ (at' : Nat))) && (decide (((at' : Nat) : Int) ≤ (at' : Int) + 1))) && (decide ((at' : Int) + 1 ≤ ((L.length : Nat) : Int)))) && (decide (((L.length : Nat) : Int) ≤ ((cap : Nat) : Int)))) && ((mayCut (some ⟨c, off, some s⟩) 1) || (decide (((at' : Nat) : Int) = 0)))) = true := by
    simp only [hmay, Bool.true_or, Bool.and_true, Bool.and_eq_true, decide_eq_true_eq]
    omega
  have g2 : (((at' : Nat) : Int) == (at' : Int) + 1) = false := by rw [beq_eq_false_iff_ne]; omega
  have g3 : ((((decide ((0 : Int) ≤ (at' : Nat))) && (decide (((at' : Nat) : Int) ≤ ((cap : Nat) : Int)))) && (decide (((cap : Nat) : Int) ≤ ((cap : Nat) : Int)))) && ((mayCut (some ⟨c, off, some s⟩) 1) || true)) = true := by
    simp only [Bool.or_true, Bool.and_true, Bool.and_eq_true, decide_eq_true_eq]
    omega
  have g4 : (((((decide ((0 : Int) ≤ (at' : Int) + 1)) && (decide ((at' : Int) + 1 ≤ ((L.length : Nat) : Int)))) && (decide (((L.length : Nat) : Int) ≤ ((cap : Nat) : Int)))) && (decide (((cap : Nat) : Int) ≤ ((cap : Nat) : Int)))) && ((mayCut (some ⟨c, off, some s⟩) 1) || (decide ((at' : Int) + 1 = 0)))) = true := by
    simp only [hmay, Bool.true_or, Bool.and_true, Bool.and_eq_true, decide_eq_true_eq]
    omega
  have t1 : Int.toNat ((at' : Nat) : Int) = at' := by omega
  have t2 : Int.toNat ((at' : Int) + 1) = at' + 1 := by omega
  rw [T35, wp_grd]
  refine ⟨g1, ?_⟩
  rw [wp_bif, g2]
  simp only [Bool.false_eq_true, if_false]
  rw [wp_grd]
  refine ⟨g3, ?_⟩
  rw [wp_grd]
  refine ⟨g4, ?_⟩
  rw [t1, t2, wp_act]
  have hsrc := hR.src (at' + 1) (L.length - (at' + 1)) (by simp; omega)
  have hys : ((ints .i64 L).drop (at' + 1)).take ((L.length - (at' + 1)) * 1) = ints .i64 (L.drop (at' + 1)) := by
    rw [List.take_of_length_le (by simp), ← List.map_drop]
  rw [hys] at hsrc
  have hlen : (ints .i64 (L.drop (at' + 1))).length = (L.length - (at' + 1)) * 1 := by simp
  obtain ⟨σ1, w1, w2, w3, w4, w5⟩ := hR.wrN (i := at') (vs := ints .i64 (L.drop (at' + 1))) (by simp; omega) (by simp; omega) (ints_one _ _)
  have ha : apS 1 8 (some ⟨c, off, some s⟩) at' cap (cutS (some ⟨c, off, some s⟩) ((at' + 1) * 1)) (L.length - (at' + 1)) (cap - (at' + 1)) σ = some (Slc c off s (L.length - 1) cap, σ1) := by
    have e1 : cutS (some ⟨c, off, some s⟩) ((at' + 1) * 1) = some ⟨c, off + (at' + 1), some s⟩ := by simp [cutS, aadd]
    rw [e1, apS_some hsrc, apCore_fit hlen (by omega) (by omega)]
    have e2 : aadd ⟨c, off, some s⟩ (at' * 1) = ⟨c, off + at', some s⟩ := by simp [aadd]
    rw [e2, w1]
    have e3 : at' + (L.length - (at' + 1)) = L.length - 1 := by omega
    simp only [e3]
  rw [ha]
  simp only [asSlice_slice]
  rw [wp_grd]
  have g5 : ((((decide ((((L.length - 1 : Nat) : Int)) ≤ ((L.length : Nat) : Int))) && (decide (((L.length : Nat) : Int) ≤ ((cap : Nat) : Int)))) && (decide (((cap : Nat) : Int) ≤ ((cap : Nat) : Int)))) && ((mayCut (some ⟨c, off, some s⟩) 1) || (decide ((((L.length - 1 : Nat) : Int)) = 0)))) = true := by
    simp only [hmay, Bool.true_or, Bool.and_true, Bool.and_eq_true, decide_eq_true_eq]
    omega
  refine ⟨g5, ?_⟩
  have hM : (ints .i64 L).take at' ++ ints .i64 (L.drop (at' + 1)) ++ (ints .i64 L).drop (at' + (ints .i64 (L.drop (at' + 1))).length) = ints .i64 (L.eraseIdx at' ++ L.drop (L.length - 1)) := by
    rw [hlen, List.eraseIdx_eq_take_drop_succ, show at' + (L.length - (at' + 1)) * 1 = L.length - 1 by omega]
    simp [ints]
  rw [hM] at w5
  have hel : (L.eraseIdx at').length = L.length - 1 := by rw [List.length_eraseIdx_of_lt (by omega)]
  obtain ⟨σ2, x1, x2, x3, x4, x5⟩ := w5.wrN (i := L.length - 1) (vs := [.int .i64 0]) (by simp; omega) (by simp; omega) (by intro x hx; simp at hx; subst hx; rfl)
  have hc : clr [.int .i64 0] (cutS (some ⟨c, off, some s⟩) ((L.length - 1) * 1)) (L.length - (L.length - 1)) σ1 = some (.tuple #[], σ2) := by
    have e1 : cutS (some ⟨c, off, some s⟩) ((L.length - 1) * 1) = some ⟨c, off + (L.length - 1), some s⟩ := by simp [cutS, aadd]
    have e2 : L.length - (L.length - 1) = 1 := by omega
    rw [e1, e2]
    unfold clr
    simp only [show Nat.beq 1 0 = false from rfl, cond_false, rep, List.append_nil, x1]
  rw [wp_act, hc]
  simp only [asTuple_tuple, asNil_nil, wp_ret]
  refine ⟨_, rfl, hQ σ2 ⟨by omega, by rw [x3, w3], fun j _ hj => (x4 j hj).trans (w4 j hj)⟩ (by rw [x2, w2]) ?_⟩
  have := x5.take (L.length - 1)
  have e : List.take (L.length - 1) ((ints .i64 (L.eraseIdx at' ++ L.drop (L.length - 1))).take (L.length - 1) ++ [.int .i64 0] ++ (ints .i64 (L.eraseIdx at' ++ L.drop (L.length - 1))).drop (L.length - 1 + [Value.int .i64 0].length)) = ints .i64 (L.eraseIdx at') := by
    have hlt : ((ints .i64 (L.eraseIdx at' ++ L.drop (L.length - 1))).take (L.length - 1)).length = L.length - 1 := by
      simp [hel]
    rw [List.append_assoc, List.take_append_of_le_length (by omega), List.take_of_length_le (by omega), ← List.map_take, List.take_append_of_le_length (by omega), List.take_of_length_le (by omega)]
  rw [e] at this
  exact this

/-- The place of the one that goes: as the loop goes. -/
def gapAt (L : List Int) (i : Nat) : Int := wi64 (L.getD (i + 1) 0 - L.getD (i - 1) 0)
def pick (L : List Int) : Nat → Nat
  | 0 => 1
  | j + 1 => if gapAt L (j + 1) < gapAt L (pick L j) then j + 1 else pick L j
theorem pick_le (L : List Int) : ∀ j, 1 ≤ pick L j ∧ pick L j ≤ max 1 j
  | 0 => by simp [pick]
  | j + 1 => by
    have := pick_le L j
    unfold pick
    split <;> omega

/-- append of one number. -/
theorem wp_app1 {σ : AHeap} {c off s cap : Nat} {l : List Int} (hR : Row σ c off s cap 1 (ints .i64 l)) (hs : l.length ≤ 1000) (n : Int) (g : Value → Pg) (Q : Post)
    (h : ∀ σ' s' cap', Frm σ σ' (· = c) → Row σ' c off s' cap' 1 (ints .i64 (l ++ [n])) → Wp PROG ov0 (g (Slc c off s' (l.length + 1) cap')) σ' Q) :
    Wp PROG ov0 (.act (bdSl 1 1 [.int .i64 n]) fun v9 => asSlice v9 fun p10 n11 n12 => .act (apS 1 8 (some ⟨c, off, some s⟩) l.length cap p10 n11 n12) g) σ Q := by
  rw [wp_act, bdSl_eq]
  simp only [asSlice_slice]
  have hf := Frm.new σ [.int .i64 n] 1 (fun _ => False)
  have hR1 := hf.row hR (fun h => h)
  have hN := Row.new σ 1 [.int .i64 n] 1 (by decide) rfl (by intro x hx; simp at hx; subst hx; rfl)
  have hsrc := hN.src 0 1 (by simp)
  obtain ⟨σ', s', cap', a1, a2, a3, a4, a5⟩ := hR1.append (byt := 8) (len := l.length) (n := 1) (ys := [.int .i64 n]) (by simp) rfl (by decide) (by decide) (by intro x hx; simp at hx; subst hx; rfl) (by omega) (by omega)
  rw [wp_act, apS_some (ys := [.int .i64 n]) hsrc, a1]
  refine h σ' s' cap' ⟨by rw [a2]; exact hf.n, by rw [a3]; exact hf.old, fun j hj hne => (a4 j hne).trans (hf.get j hj (fun h => h))⟩ ?_
  have e : ints .i64 (l ++ [n]) = ints .i64 l ++ [.int .i64 n] := by simp [ints]
  rw [e]
  exact a5

theorem ev_add_no (h : KS σ b c every most l) (hl : 1 ≤ l.length) (hs : l.length ≤ 900) (he : every ≠ 0) (n : Int) (hw : wants every l n = false) :
    EvF PROG ov0 26 [KP b, .int .i64 n] σ (.tuple #[.slice none 0 0, .int .i64 1]) σ := by
  have hwn := ev_wants h hl (by omega) he n
  refine EvF.of (T26_eq _ _) rfl ?_
  rw [T26, wp_call, WpF.eq hwn, asBool_bool, hw, wp_bif]
  simp [wp_ret]

/-- What Add does where it adds. -/
def Added (σ : AHeap) (b c : Nat) (every most : Int) (L : List Int) (v : Value) (σ' : AHeap) : Prop :=
  Frm σ σ' (fun j => j = b ∨ j = c) ∧
  if (L.length : Int) ≤ most then v = .tuple #[.slice none 0 0, .int .i64 0] ∧ KS σ' b c every most L
  else ∃ g, σ.n ≤ g ∧ v = .tuple #[Slc g 0 1 1 1, .int .i64 0] ∧ Row σ' g 0 1 1 1 (ints .i64 [L.getD (pick L (L.length - 2)) 0]) ∧ KS σ' b c every most (L.eraseIdx (pick L (L.length - 2)))

theorem wp_add (h : KS σ b c every most l) (hl : 1 ≤ l.length) (hs : l.length ≤ 900) (he : every ≠ 0) (hm : 2 ≤ most) (n : Int) (hw : wants every l n = true) {Q : Value → AHeap → Prop}
    (hQ : ∀ v σ', Added σ b c every most (l ++ [n]) v σ' → Q v σ') : WpF PROG ov0 26 [KP b, .int .i64 n] σ Q := by
  have hwn := ev_wants h hl (by omega) he n
  obtain ⟨off, s, cap, hne, hS, hR⟩ := h
  refine WpF.of (T26_eq _ _) rfl ?_
  rw [T26, wp_call, WpF.eq hwn, asBool_bool, hw, wp_bif]
  simp only [Bool.not_true, Bool.false_eq_true, if_false]
  rw [wp_fld hS rfl, asSlice_slice]
  refine wp_app1 hR (by omega) n _ _ fun σ1 s1 cap1 hF hR1 => ?_
  simp only [asSlice_slice]
  have hS1 := hF.st hS (fun e => hne e.symm)
  rw [wp_set hS1 (by simp) rfl]
  generalize hσ2 : σ1.put b (.blk ⟨[.int .i64 every, .int .i64 most, Slc c off s l.length cap].set (0 + 2) (Slc c off s1 (l.length + 1) cap1), 0, [[Value.int .i64 every, .int .i64 most, Slc c off s l.length cap].length], 0⟩) = σ2
  have hlen : (l ++ [n]).length = l.length + 1 := by simp
  have hS2 : St σ2 b [.int .i64 every, .int .i64 most, Slc c off s1 (l ++ [n]).length cap1] := by
    subst hσ2
    rw [hlen]
    exact hS1.put rfl
  have hF2 : Frm σ1 σ2 (· = b) := by subst hσ2; exact Frm.put _ _ _
  have hR2 := hF2.row hR1 hne
  have hF02 : Frm σ σ2 (fun j => j = b ∨ j = c) := hF.trans hF2 (fun j _ e => .inr e) (fun j _ e => .inl e)
  clear hσ2
  generalize hL : l ++ [n] = L at *
  simp only [asTuple_tuple, asNil_nil]
  rw [wp_fld hS2 rfl, asSlice_slice, wp_fld hS2 rfl, asInt_int, wp_bif]
  by_cases hle : (L.length : Int) ≤ most
  · rw [if_pos (by simpa using hle), wp_ret]
    exact ⟨_, rfl, hQ _ _ ⟨hF02, by rw [if_pos hle]; exact ⟨rfl, off, s1, cap1, hne, hS2, hR2⟩⟩⟩
  · rw [if_neg (by simpa using hle)]
    have hL3 : 3 ≤ L.length := by omega
    have hRd := hR2.rdI
    have ew : wi64 ((L.length : Int) - 1) = L.length - 1 := wi64_in (by omega)
    refine Wp.count (L.length - 2) (fun j st σ' => σ' = σ2 ∧ st = [.int .i64 ((j : Int) + 1), .int .i64 ((pick L j : Nat) : Int)]) ⟨rfl, rfl⟩ ?_ ?_
    · rintro j st σ' hj ⟨rfl, rfl⟩
      have hp := pick_le L j
      have e1 : wi64 ((j : Int) + 1 + 1) = ((j + 2 : Nat) : Int) := by rw [wi64_in (by omega)]; omega
      have e2 : wi64 ((j : Int) + 1 - 1) = ((j : Nat) : Int) := by rw [wi64_in (by omega)]; omega
      have e3 : wi64 (((pick L j : Nat) : Int) + 1) = ((pick L j + 1 : Nat) : Int) := by rw [wi64_in (by omega)]; omega
      have e4 : wi64 (((pick L j : Nat) : Int) - 1) = ((pick L j - 1 : Nat) : Int) := by rw [wi64_in (by omega)]; omega
      simp only [T26b0, asCons_cons, asInt_int, asNil_nil]
      rw [wp_fld hS2 rfl, asSlice_slice, wp_bif, if_pos (by rw [ew]; simp; omega), wp_join]
      simp only [e1, e2, e3, e4]
      rw [wp_fld hS2 rfl, asSlice_slice, wp_rdI hRd (by omega) (by omega), wp_fld hS2 rfl, asSlice_slice, wp_rdI hRd (by omega) (by omega),
        wp_fld hS2 rfl, asSlice_slice, wp_rdI hRd (by omega) (by omega), wp_fld hS2 rfl, asSlice_slice, wp_rdI hRd (by omega) (by omega)]
      simp only [Int.toNat_natCast]
      have hg1 : wi64 (L.getD (j + 2) 0 - L.getD j 0) = gapAt L (j + 1) := rfl
      have hg2 : wi64 (L.getD (pick L j + 1) 0 - L.getD (pick L j - 1) 0) = gapAt L (pick L j) := rfl
      have hpk : pick L (j + 1) = if gapAt L (j + 1) < gapAt L (pick L j) then j + 1 else pick L j := rfl
      simp only [hg1, hg2]
      rw [wp_join, wp_bif, hpk]
      by_cases hc : gapAt L (j + 1) < gapAt L (pick L j)
      · rw [if_pos (by simpa using hc), if_pos hc]
        simp only [wp_ret, T26k0, T26k1, sw_same, asCons_cons, asInt_int, asNil_nil, e1]
        exact ⟨trivial, by simp; omega⟩
      · rw [if_neg (by simpa using hc), if_neg hc]
        simp only [wp_ret, T26k0, T26k1, sw_same, asCons_cons, asInt_int, asNil_nil, e1]
        exact ⟨trivial, by simp; omega⟩
    · rintro st σ' ⟨rfl, rfl⟩
      have hp := pick_le L (L.length - 2)
      generalize ha : pick L (L.length - 2) = a at hp ⊢
      simp only [T26b0, asCons_cons, asInt_int, asNil_nil]
      rw [wp_fld hS2 rfl, asSlice_slice, wp_bif, if_neg (by rw [ew]; simp; omega), wp_ret]
      simp only [T26k2, sw_same, asCons_cons, asInt_int, asNil_nil]
      rw [wp_fld hS2 rfl, asSlice_slice, wp_rdI hRd (by omega) (by omega), wp_act, bdSl_eq]
      simp only [asSlice_slice, Int.toNat_natCast]
      have hF3 := Frm.new σ' [.int .i64 (L.getD a 0)] 1 (fun _ => False)
      have hN := Row.new σ' 1 [.int .i64 (L.getD a 0)] 1 (by decide) rfl (by intro x hx; simp at hx; subst hx; rfl)
      have hS3 := hF3.st hS2 (fun h => h)
      have hR3 := hF3.row hR2 (fun h => h)
      rw [wp_fld hS3 rfl, asSlice_slice, wp_call]
      have ea : wi64 ((a : Int) + 1) = (a : Int) + 1 := wi64_in (by omega)
      rw [ea]
      refine wp_delete hR3 a (by omega) (by omega) fun σ4 hF4 hn4 hR4 => ?_
      simp only [asSlice_slice]
      have hS4 := hF4.st hS3 (fun e => hne e.symm)
      have hgc : σ'.n ≠ c := by have := hR2.lt; omega
      have hgb : σ'.n ≠ b := by have := hS2.1; omega
      have hN4 := hF4.row hN hgc
      rw [wp_set hS4 (by simp) rfl]
      simp only [asTuple_tuple, asNil_nil, wp_ret]
      have hF5 := Frm.put σ4 b (.blk ⟨[.int .i64 every, .int .i64 most, Slc c off s1 L.length cap1].set (0 + 2) (Slc c off s1 (L.length - 1) cap1), 0, [[Value.int .i64 every, .int .i64 most, Slc c off s1 L.length cap1].length], 0⟩)
      refine ⟨_, rfl, hQ _ _ ⟨?_, ?_⟩⟩
      · refine hF02.trans (hF3.trans (hF4.trans hF5 (U := fun j => j = b ∨ j = c) (fun j _ e => .inr e) (fun j _ e => .inl e)) (U := fun j => j = b ∨ j = c) (fun _ _ h => h.elim) (fun _ _ h => h)) (fun _ _ h => h) (fun _ _ h => h)
      · rw [if_neg hle, ha]
        refine ⟨σ'.n, hF02.n, rfl, hF5.row hN4 hgb, off, s1, cap1, hne, ?_, hF5.row hR4 hne⟩
        have hel : (L.eraseIdx a).length = L.length - 1 := by rw [List.length_eraseIdx_of_lt (by omega)]
        rw [hel]
        exact hS4.put rfl
end

end Go.Pg
