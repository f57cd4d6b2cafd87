/- Layer 12: Get, Set, Head, Turns. -/
import Derived.Test.YtndkndlfhmkkkaaHeap13
namespace Go.Pg
open Go.Proofs

def splitK (w : Int) : Int := if splitOK w = true then intW w / 16777216 else 0
def splitT (w : Int) : Int := if splitOK w = true then intW w / 65536 % 256 else 0

/-- What Get answers; what Set does; what Head tells. -/
def getM (W : List Int) (H : List Bool) (p i : Int) : Int × Int :=
  if plB H p = true then (if 0 ≤ i ∧ i < splitN (W.getD (atI p).toNat 0) then (W.getD ((atI p).toNat + 1 + i.toNat) 0, 0) else (0, 1)) else (0, 4)
def setM (W : List Int) (H : List Bool) (p i w : Int) : Int × List Int :=
  if plB H p = true then (if 0 ≤ i ∧ i < splitN (W.getD (atI p).toNat 0) ∧ mayB H w = true then (0, W.set ((atI p).toNat + 1 + i.toNat) w) else (1, W)) else (4, W)
def headM (W : List Int) (H : List Bool) (p : Int) : Int × Int × Int × Int :=
  if plB H p = true then (splitK (W.getD (atI p).toNat 0), splitT (W.getD (atI p).toNat 0), splitN (W.getD (atI p).toNat 0), 0) else (0, 0, 0, 4)

section
variable {σ : AHeap} {S : Nat} {Y : Nat → Prop} {room turns : Int} {words : List Int} {heads : List Bool} {ts : List (Int × List Int)}

theorem ev_split48 (w : Int) : EvF PROG ov0 48 [.int .u64 w] σ (.tuple #[.int .i64 (splitK w), .int .i64 (splitT w), .int .i64 (splitN w), .bool (splitOK w)]) σ := by
  have h24 : shrI .i64 (intW w) 24 = intW w / 16777216 := by simpa using shrI_eq .i64 (intW w) 24 (by decide)
  have h16s : shrI .i64 (intW w) 16 = intW w / 65536 := by simpa using shrI_eq .i64 (intW w) 16 (by decide)
  have h16 : andI .i64 (intW w) 65535 = intW w % 65536 := by simpa using andI_mask .i64 (intW w) 16 (by decide)
  have h8 : andI .i64 (intW w / 65536) 255 = intW w / 65536 % 256 := by simpa using andI_mask .i64 (intW w / 65536) 8 (by decide)
  unfold splitN splitK splitT
  cases hB : splitOK w with
  | true =>
    unfold splitOK at hB
    simp only [Bool.and_eq_true, decide_eq_true_eq] at hB
    refine EvF.of (T48_eq w) rfl ?_
    rw [T48, wp_call, WpF.eq (ev_int w)]
    simp only [asTuple_tuple, asCons_cons, asInt_int, asBool_bool, asNil_nil]
    rw [wp_bif, if_neg (by rw [h24]; simp [hB.1]; omega), wp_ret, h16, h24, h16s, h8]
    exact ⟨rfl, rfl⟩
  | false =>
    unfold splitOK at hB
    refine EvF.of (T48_eq w) rfl ?_
    rw [T48, wp_call, WpF.eq (ev_int w)]
    simp only [asTuple_tuple, asCons_cons, asInt_int, asBool_bool, asNil_nil]
    rw [wp_bif, if_pos (by
      rw [h24]
      by_cases h2 : w % 2 = 0
      · simp [h2]
      · simp [h2] at hB
        simp [h2]
        omega), wp_ret]
    exact ⟨rfl, rfl⟩

theorem ev_thing2 {cw capw : Nat} {pw : Option Addr} {x y z : Value} (a1 : St σ S [x, y, .slice pw words.length capw, z]) (a2 : SlV σ cw pw capw (ints .u64 words)) (k : Nat) (hk : k + 1 + (splitN (words.getD k 0)).toNat ≤ words.length) (hl : words.length ≤ 100000) :
    EvF PROG ov0 55 [PV S, .int .i64 (k : Int)] σ (.slice (cutS pw ((k + 1) * 1)) (splitN (words.getD k 0)).toNat (capw - (k + 1))) σ := by
  have hcap := a2.cap
  have hmc := a2.mayCut
  simp only [List.length_map] at hcap
  have hnn := splitN_nn (words.getD k 0)
  have hsp := ev_split48 (σ := σ) (words.getD k 0)
  generalize splitN (words.getD k 0) = sz at hk hnn hsp ⊢
  obtain ⟨off, s, rfl, hR⟩ := a2.rowOf (by intro e; have := congrArg List.length e; simp at this; subst this; simp at hk)
  have e1 : wi64 ((k : Int) + 1) = ((k + 1 : Nat) : Int) := by rw [wi64_in (by omega)]; omega
  have e2 : wi64 (((k + 1 : Nat) : Int) + sz) = ((k + 1 + sz.toNat : Nat) : Int) := by rw [wi64_in (by omega)]; omega
  refine EvF.of (T55_eq _ _) rfl ?_
  rw [T55]
  simp only [asSome_some]
  rw [wp_ldF a1 rfl, asSlice_slice]
  simp only [asSome_some]
  rw [wp_grd]
  refine ⟨by simp; omega, ?_⟩
  rw [Int.toNat_natCast, wp_rowR (v := .int .u64 (words.getD k 0)) hR (ints_get (by omega)), asInt_int, wp_call, WpF.eq hsp]
  simp only [asTuple_tuple, asCons_cons, asInt_int, asBool_bool, asNil_nil]
  rw [wp_ldF a1 rfl, asSlice_slice, e1, e2, wp_grd]
  refine ⟨by simp [hmc]; omega, ?_⟩
  rw [wp_ret, Int.toNat_natCast, Int.toNat_natCast, show k + 1 + sz.toNat - (k + 1) = sz.toNat by omega]
  exact ⟨rfl, rfl⟩

/-- find. -/
theorem wp_find43 (h : HP σ S Y room turns words heads) (hW : words = wOf ts) (hH : heads = hOf ts) (ht : ThOK ts) (hl : words.length ≤ 100000) (p i : Int) (hp : 0 ≤ p) {Q : Value → AHeap → Prop}
    (h1 : plB heads p = false → Q (.tuple #[.pointer none, .int .i64 4]) σ) (h2 : plB heads p = true → ¬ (0 ≤ i ∧ i < splitN (words.getD (atI p).toNat 0)) → Q (.tuple #[.pointer none, .int .i64 1]) σ)
    (h3 : plB heads p = true → 0 ≤ i → i < splitN (words.getD (atI p).toNat 0) → (atI p).toNat + 1 + i.toNat < words.length → ∀ cw off s capw z, St σ S [.int .i64 room, .int .i64 turns, .slice (some ⟨cw, off, some s⟩) words.length capw, z] → Row σ cw off s capw 1 (ints .u64 words) → Q (.tuple #[.pointer (some (aadd ⟨cw, off, some s⟩ (((atI p).toNat + 1 + i.toNat) * 1))), .int .i64 0]) σ) :
    WpF PROG ov0 43 [PV S, .int .u64 p, .int .i64 i] σ Q := by
  refine WpF.of (T43_eq _ _ _) rfl ?_
  rw [T43, wp_call, WpF.eq (ev_place h p hp)]
  simp only [asTuple_tuple, asCons_cons, asInt_int, asBool_bool, asNil_nil]
  rw [wp_bif]
  cases hpl : plB heads p with
  | false =>
    rw [if_pos (by rfl), wp_ret]
    exact ⟨_, rfl, h1 hpl⟩
  | true =>
    have ha := atI_nn p hp
    have hh := plB_head hpl
    rw [hH] at hh
    obtain ⟨_, t2⟩ := thing_at ts _ ht hh
    rw [← hW] at t2
    obtain ⟨k, hk⟩ : ∃ k : Nat, atI p = (k : Int) := ⟨(atI p).toNat, by omega⟩
    have hkn : (atI p).toNat = k := by omega
    rw [hkn] at t2 h2 h3
    obtain ⟨h0, cw, ch, g1, g2⟩ := id h
    obtain ⟨pw, capw, ph, caph, a1, a2, a3, a4, a5, a6⟩ := g1.blk
    have hnn := splitN_nn (words.getD k 0)
    have hth := ev_thing2 a1 a2 k t2 hl
    generalize splitN (words.getD k 0) = sz at t2 h2 h3 hnn hth
    rw [if_neg (by simp), hk, wp_call, WpF.eq hth, asSlice_slice, wp_join, wp_bif]
    obtain ⟨off, s, rfl, hR⟩ := a2.rowOf (by intro e; have := congrArg List.length e; simp at this; subst this; simp at t2)
    have bad : ¬ (0 ≤ i ∧ i < sz) → Wp PROG ov0 (T43k0 (cutS (some ⟨cw, off, some s⟩) ((k + 1) * 1)) i (sz).toNat .normal [.bool true]) σ fun _ vs σ' => ∃ v, vs = [v] ∧ Q v σ' := by
      intro hb
      simp only [T43k0, sw_same, asCons_cons, asBool_bool, asNil_nil]
      rw [wp_bif, if_pos (by rfl), wp_ret]
      exact ⟨_, rfl, h2 hpl hb⟩
    by_cases hi : i < 0
    · rw [if_neg (by simp [hi]), wp_ret]
      exact bad (by omega)
    · rw [if_pos (by simp; omega), wp_ret]
      by_cases hin : i < sz
      · rw [show decide (i ≥ (((sz).toNat : Nat) : Int)) = false by simp; omega]
        simp only [T43k0, sw_same, asCons_cons, asBool_bool, asNil_nil]
        have ec : cutS (some ⟨cw, off, some s⟩) ((k + 1) * 1) = some ⟨cw, off + (k + 1), some s⟩ := by simp [cutS, aadd]
        rw [wp_bif, if_neg (by simp), ec]
        simp only [asSome_some]
        rw [wp_grd]
        refine ⟨by simp; omega, ?_⟩
        rw [wp_ret]
        have := h3 hpl (by omega) hin (by omega) cw off s capw _ a1 hR
        have ea : aadd ⟨cw, off + (k + 1), some s⟩ (i.toNat * 1) = aadd ⟨cw, off, some s⟩ ((k + 1 + i.toNat) * 1) := by simp [aadd, Nat.add_assoc]
        rw [ea]
        exact ⟨_, rfl, this⟩
      · rw [show decide (i ≥ (((sz).toNat : Nat) : Int)) = true by simp; omega]
        exact bad (by omega)

theorem ev_get22 (h : HP σ S Y room turns words heads) (hW : words = wOf ts) (hH : heads = hOf ts) (ht : ThOK ts) (hl : words.length ≤ 100000) (p i : Int) (hp : 0 ≤ p) :
    EvF PROG ov0 22 [PV S, .int .u64 p, .int .i64 i] σ (.tuple #[.int .u64 (getM words heads p i).1, .int .i64 (getM words heads p i).2]) σ := by
  refine EvF.of (T22_eq _ _ _) rfl ?_
  rw [T22, wp_call]
  unfold getM
  refine wp_find43 h hW hH ht hl p i hp ?_ ?_ ?_
  · intro e
    simp only [asTuple_tuple, asCons_cons, asPtr_ptr, asInt_int, asNil_nil]
    rw [wp_bif, if_pos (by rfl), wp_ret, e]
    exact ⟨rfl, rfl⟩
  · intro e hb
    simp only [asTuple_tuple, asCons_cons, asPtr_ptr, asInt_int, asNil_nil]
    rw [wp_bif, if_pos (by rfl), wp_ret, e, if_pos rfl, if_neg hb]
    exact ⟨rfl, rfl⟩
  · intro e h0 h1 hlt cw off s capw z a1 hR
    simp only [asTuple_tuple, asCons_cons, asPtr_ptr, asInt_int, asNil_nil, asSome_some]
    rw [wp_bif, if_neg (by simp), wp_rowR (v := .int .u64 (words.getD ((atI p).toNat + 1 + i.toNat) 0)) hR (ints_get hlt), asInt_int, wp_ret, e, if_pos rfl, if_pos ⟨h0, h1⟩]
    exact ⟨rfl, rfl⟩

theorem wp_set17 (h : HP σ S Y room turns words heads) (hW : words = wOf ts) (hH : heads = hOf ts) (ht : ThOK ts) (hl : words.length ≤ 100000) (p i w : Int) (hp : 0 ≤ p) (hw : 0 ≤ w) {Q : Value → AHeap → Prop}
    (hQ : ∀ σ', Frm σ σ' (fun j => ¬ Y j) → HP σ' S Y room turns (setM words heads p i w).2 heads → Q (.int .i64 (setM words heads p i w).1) σ') :
    WpF PROG ov0 17 [PV S, .int .u64 p, .int .i64 i, .int .u64 w] σ Q := by
  refine WpF.of (T17_eq _ _ _ _) rfl ?_
  rw [T17, wp_call]
  unfold setM at hQ
  refine wp_find43 h hW hH ht hl p i hp ?_ ?_ ?_
  · intro e
    rw [e] at hQ
    simp only [asTuple_tuple, asCons_cons, asPtr_ptr, asInt_int, asNil_nil]
    rw [wp_join, wp_bif, if_pos (by rfl), wp_ret]
    simp only [T17k0, sw_same, asCons_cons, asInt_int, asNil_nil]
    rw [wp_ret]
    exact ⟨_, rfl, hQ σ (Frm.refl _ _) h⟩
  · intro e hb
    rw [e, if_pos rfl, if_neg (fun hx => hb ⟨hx.1, hx.2.1⟩)] at hQ
    simp only [asTuple_tuple, asCons_cons, asPtr_ptr, asInt_int, asNil_nil]
    rw [wp_join, wp_bif, if_pos (by rfl), wp_ret]
    simp only [T17k0, sw_same, asCons_cons, asInt_int, asNil_nil]
    rw [wp_ret]
    exact ⟨_, rfl, hQ σ (Frm.refl _ _) h⟩
  · intro e h0 h1 hlt cw off s capw z a1 hR
    rw [e, if_pos rfl] at hQ
    simp only [asTuple_tuple, asCons_cons, asPtr_ptr, asInt_int, asNil_nil]
    rw [wp_join, wp_bif, if_neg (by simp), wp_call, WpF.eq (ev_may h w hw), asBool_bool, wp_bif]
    cases hm : mayB heads w with
    | false =>
      rw [if_neg (by rw [hm]; simp)] at hQ
      rw [if_pos (by rfl), wp_ret]
      simp only [T17k0, sw_same, asCons_cons, asInt_int, asNil_nil]
      rw [wp_ret]
      exact ⟨_, rfl, hQ σ (Frm.refl _ _) h⟩
    | true =>
      rw [if_pos ⟨h0, h1, hm⟩] at hQ
      rw [if_neg (by simp), wp_ret]
      simp only [T17k0, sw_nr, sw_same, asCons_cons, asInt_int, asNil_nil, asSome_some]
      obtain ⟨q0, cw', ch, g1, g2⟩ := h
      obtain ⟨pw', capw', ph, caph, b1, b2, b3, b4, b5, b6⟩ := g1.blk
      have e1 := a1.2.symm.trans b1.2
      simp only [Option.some.injEq, AObj.blk.injEq, AB.mk.injEq, List.cons.injEq, Value.slice.injEq, and_true, true_and] at e1
      obtain ⟨⟨⟨rfl, rfl⟩, _⟩, _⟩ := e1
      have hcw : cw = cw' := by
        rcases b2 with ⟨e, _⟩ | ⟨o, ss, e, _⟩
        · cases e
        · cases e; rfl
      subst hcw
      refine wp_rowW hR (by simpa using hlt) rfl fun σ1 hF1 hn1 hR1 => ?_
      rw [wp_ret]
      have ee : (ints .u64 words).set ((atI p).toNat + 1 + i.toNat) (.int .u64 w) = ints .u64 (words.set ((atI p).toNat + 1 + i.toNat) w) := by simp [ints, List.map_set]
      rw [ee] at hR1
      refine ⟨_, rfl, hQ σ1 (hF1.mono fun j _ e hy => (g2 j hy).2.1 e) ⟨fun i hi => Nat.lt_of_lt_of_le (q0 i hi) hF1.n, cw, ch, ⟨⟨_, capw, ph, caph, ?_, .inr ⟨off, s, rfl, hR1⟩, b3.frm hF1 (fun hp e => b6 (by simp) hp e.symm), b4, b5, b6⟩, by rw [List.length_set]; exact g1.len, Nat.lt_of_lt_of_le g1.lw hF1.n, Nat.lt_of_lt_of_le g1.lh hF1.n⟩, g2⟩⟩
      rw [List.length_set]
      exact hF1.st b1 fun e => b4 (by simp) e.symm

theorem ev_head24 (h : HP σ S Y room turns words heads) (hW : words = wOf ts) (hH : heads = hOf ts) (ht : ThOK ts) (p : Int) (hp : 0 ≤ p) :
    EvF PROG ov0 24 [PV S, .int .u64 p] σ (.tuple #[.int .i64 (headM words heads p).1, .int .i64 (headM words heads p).2.1, .int .i64 (headM words heads p).2.2.1, .int .i64 (headM words heads p).2.2.2]) σ := by
  refine EvF.of (T24_eq _ _) rfl ?_
  rw [T24, wp_call, WpF.eq (ev_place h p hp)]
  simp only [asTuple_tuple, asCons_cons, asInt_int, asBool_bool, asNil_nil]
  rw [wp_bif]
  unfold headM
  cases hpl : plB heads p with
  | false =>
    rw [if_pos (by rfl), wp_ret]
    exact ⟨rfl, rfl⟩
  | true =>
    have ha := atI_nn p hp
    have hh := plB_head hpl
    rw [hH] at hh
    obtain ⟨_, t2⟩ := thing_at ts _ ht hh
    rw [← hW] at t2
    obtain ⟨k, hk⟩ : ∃ k : Nat, atI p = (k : Int) := ⟨(atI p).toNat, by omega⟩
    have hkn : (atI p).toNat = k := by omega
    rw [hkn] at t2
    rw [if_neg (by simp), hk]
    simp only [asSome_some]
    rw [HP.wordAt h k (by omega), Int.toNat_natCast, wp_call, WpF.eq (ev_split48 _)]
    simp only [asTuple_tuple, asCons_cons, asInt_int, asBool_bool, asNil_nil]
    rw [wp_ret]
    exact ⟨rfl, rfl⟩

theorem ev_turns (h : HP σ S Y room turns words heads) : EvF PROG ov0 26 [PV S] σ (.int .i64 turns) σ := by
  obtain ⟨h0, cw, ch, h1, h2⟩ := h
  obtain ⟨pw, capw, ph, caph, a1, a2, a3, a4, a5, a6⟩ := h1.blk
  refine EvF.of (T26_eq _) rfl ?_
  rw [T26]
  simp only [asSome_some]
  rw [wp_ldF a1 rfl, asInt_int, wp_ret]
  exact ⟨rfl, rfl⟩
end
end Go.Pg
