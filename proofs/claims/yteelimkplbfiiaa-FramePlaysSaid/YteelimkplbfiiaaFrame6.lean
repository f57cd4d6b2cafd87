/- Layer 17: the stack's Cut, Get, Added, Calls in all cases; the law's ints. -/
import Derived.Test.YteelimkplbfiiaaRef6
namespace Go.Pg
open Go.Proofs

section
variable {σ : AHeap} {S room : Nat} {Y : Nat → Prop} {vs : List Fv}
theorem ev_getK_none (h : Stk σ S room Y []) (i : Int) : EvF PROG ov0 12 [PV S, .int .i64 i] σ (.tuple #[.int .u64 0, .int .i64 4]) σ := by
  refine EvF.of (T12_eq _ _) rfl ?_
  rw [T12, wp_call, WpF.eq (ev_slot_none h i)]
  simp only [asTuple_tuple, asCons_cons, asPtr_ptr, asInt_int, asNil_nil]
  rw [wp_bif, if_pos (by simp), wp_ret]
  exact ⟨rfl, rfl⟩
theorem ev_getK_out {v : Fv} (h : Stk σ S room Y (vs ++ [v])) (i : Int) (hi : ¬ (0 ≤ i ∧ i < (v.sl.length : Nat))) : EvF PROG ov0 12 [PV S, .int .i64 i] σ (.tuple #[.int .u64 0, .int .i64 1]) σ := by
  refine EvF.of (T12_eq _ _) rfl ?_
  rw [T12, wp_call, WpF.eq (ev_slot_out h i hi)]
  simp only [asTuple_tuple, asCons_cons, asPtr_ptr, asInt_int, asNil_nil]
  rw [wp_bif, if_pos (by simp), wp_ret]
  exact ⟨rfl, rfl⟩
theorem ev_getKA {v : Fv} (h : Stk σ S room Y (vs ++ [v])) (i : Int) : EvF PROG ov0 12 [PV S, .int .i64 i] σ (if 0 ≤ i ∧ i < (v.sl.length : Nat) then .tuple #[.int .u64 (v.sl.getD i.toNat 0), .int .i64 0] else .tuple #[.int .u64 0, .int .i64 1]) σ := by
  by_cases hi : 0 ≤ i ∧ i < (v.sl.length : Nat)
  · rw [if_pos hi]
    have := ev_getK h i.toNat (by omega)
    rw [show ((i.toNat : Nat) : Int) = i by omega] at this
    exact this
  · rw [if_neg hi]
    exact ev_getK_out h i hi
theorem ev_addedK_none (h : Stk σ S room Y []) : EvF PROG ov0 21 [PV S] σ (.int .i64 0) σ := by
  obtain ⟨c, hS⟩ := h.nil
  refine EvF.of (T21_eq _) rfl ?_
  rw [T21, wp_call, WpF.eq (ev_top_none hS), asPtr_ptr, wp_bif, if_neg (by simp), wp_ret]
  exact ⟨rfl, rfl⟩
/-- The last of what was taken, none. -/
theorem ev_take_emp {v : Fv} (h : Stk σ S room Y (vs ++ [v])) (hv : v.ad = []) : EvF PROG ov0 13 [PV S] σ (.tuple #[.int .u64 0, .int .i64 4]) σ := by
  obtain ⟨h0, c, fs, f, h1, rfl, rfl, hY⟩ := h.snoc
  have hv' : f.ad = [] := hv
  obtain ⟨g1, soff, ss, scap, ap, acap, g2, g3, g4, g5⟩ := h1.ok f (by simp)
  refine EvF.of (T13_eq _) rfl ?_
  rw [T13, wp_call, WpF.eq (ev_top h1), asPtr_ptr, wp_join, wp_bif, if_pos (by simp)]
  simp only [asSome_some]
  rw [wp_ldF g2 rfl, asSlice_slice, wp_ret]
  simp only [T13k0, sw_same, asCons_cons, asBool_bool, asNil_nil]
  rw [wp_bif, if_pos (by simp [hv']), wp_ret]
  exact ⟨rfl, rfl⟩

/-- ints. -/
theorem ev_ints24 {p q : Option Addr} {l : List Int} (hp : RdI σ .i64 p l) (hq : RdI σ .i64 q l) (hs : l.length ≤ 100000) (c1 c2 : Nat) : EvF PROG ov0 24 [.slice p l.length c1, .slice q l.length c2] σ (.bool true) σ := by
  refine EvF.of (T24_eq _ _ _ _ _ _) rfl ?_
  rw [T24, wp_bif, if_neg (by simp)]
  refine Wp.count l.length (fun j st σ' => st = [.int .i64 ((j : Nat) : Int), .bool false] ∧ σ' = σ) ⟨rfl, rfl⟩ ?_ ?_
  · rintro j st σ1 hj ⟨rfl, rfl⟩
    have ej : wi64 ((j : Int) + 1) = ((j + 1 : Nat) : Int) := by rw [wi64_in (by omega)]; omega
    simp only [T24b0, asCons_cons, asInt_int, asBool_bool, asNil_nil]
    rw [wp_bif, if_pos (by simp; omega), wp_join, wp_rdI hp (by omega) (by omega), wp_rdI hq (by omega) (by omega), wp_bif, if_neg (by simp), wp_ret]
    simp only [T24k0, sw_nr, sw_same, asCons_cons, asBool_bool, asNil_nil]
    rw [wp_ret, ej]
    exact ⟨rfl, rfl⟩
  · rintro st σ1 ⟨rfl, rfl⟩
    simp only [T24b0, asCons_cons, asInt_int, asBool_bool, asNil_nil]
    rw [wp_bif, if_neg (by simp), wp_ret]
    simp only [T24k1, sw_same, asCons_cons, asInt_int, asBool_bool, asNil_nil]
    rw [wp_ret]
    exact ⟨rfl, rfl⟩

/-- Calls. -/
theorem callsL_frs : ∀ (frs : List Fr), (∀ f ∈ frs, FrOK σ f) → callsL σ (frs.map fun f => PV f.b) = some (frs.map fun f => f.call)
  | [], _ => rfl
  | f :: frs, h => by
    obtain ⟨g1, soff, ss, scap, ap, acap, g2, g3, g4, g5⟩ := h f (by simp)
    have e1 : σ.rdN (aadd (PA f.b) 1) 1 = some [.int .i64 f.call] := by
      unfold AHeap.rdN
      have e : aadd (PA f.b) 1 = ⟨f.b, 0 + 1, some 0⟩ := rfl
      rw [e]
      simp only [g2.2]
      rfl
    have ih := callsL_frs frs fun g hg => h g (by simp [hg])
    simp only [List.map_cons, callsL, e1, ih]
theorem wp_callsK (h : Stk σ S room Y vs) {Q : Value → AHeap → Prop}
    (hQ : ∀ σ' b p c, Frm σ σ' NoB → SlV σ' b p c (ints .i64 (callsV vs)) → (p ≠ none → σ.n ≤ b) → Q (.slice p (callsV vs).length c) σ') : WpF PROG ov0 25 [PV S] σ Q := by
  have hfit := h.fit
  obtain ⟨h0, c, frs, h1, rfl, hY⟩ := h
  rw [List.length_map] at hfit
  obtain ⟨q, qcap, h4, h5, h6⟩ := h1.blk
  have hcl : callsV (frs.map vw) = (frs.map fun f => f.call).reverse := by simp [callsV, vw]
  have e1 : σ.rdN (aadd (PA S) 2) 1 = some [.slice q frs.length qcap] := by
    unfold AHeap.rdN
    have e : aadd (PA S) 2 = ⟨S, 0 + 2, some 0⟩ := rfl
    rw [e]
    simp only [h4.2]
    rfl
  have e2 : callsR σ q frs.length = some (frs.map fun f => f.call) := by
    unfold callsR
    cases frs with
    | nil => rfl
    | cons f l =>
      have hb : Nat.beq (f :: l).length 0 = false := rfl
      rw [hb, cond_false]
      rcases h5 with ⟨_, _, e⟩ | ⟨off, s, rfl, hR⟩
      · cases e
      · have := hR.rdN (i := 0) (k := (f :: l).length) (by simp)
        rw [Nat.add_zero, List.drop_zero, List.take_of_length_le (by simp)] at this
        simp only [this]
        exact callsL_frs _ h1.ok
  have hev : ∃ v σ', callsG [PV S] σ = some (v, σ') ∧ Q v σ' := by
    unfold callsG
    simp only [e1, e2]
    cases hf : frs.map fun f => f.call with
    | nil =>
      have hn : frs = [] := by simpa using hf
      subst hn
      exact ⟨_, _, rfl, hQ σ 0 none 0 (Frm.refl _ _) (.inl ⟨rfl, rfl, rfl⟩) fun h => absurd rfl h⟩
    | cons z zs =>
      have hl : frs.length = (z :: zs).length := by rw [← hf, List.length_map]
      simp only
      rw [show Nat.ble frs.length 100000 = true by rw [Nat.ble_eq]; omega, cond_true]
      refine ⟨_, _, rfl, ?_⟩
      have hrv : ints .i64 (revI (z :: zs) []) = ints .i64 (callsV (frs.map vw)) := by rw [revI_eq, hcl, hf, List.append_nil]
      have hlen : (callsV (frs.map vw)).length = frs.length := by rw [hcl, List.length_reverse, List.length_map]
      rw [hrv]
      have := hQ (σ.newBlk (ints .i64 (callsV (frs.map vw))) 1) σ.n (some ⟨σ.n, 0, some 1⟩) frs.length (Frm.new _ _ _ _) (.inr ⟨0, 1, rfl, Row.new σ 1 _ _ (by decide) (by rw [ints_len, hlen]; omega) (ints_one _ _)⟩) fun _ => Nat.le_refl _
      rw [hlen] at this
      exact this
  obtain ⟨v, σ', hg, hq⟩ := hev
  refine ⟨v, σ', ⟨1, fun n hn => ?_⟩, hq⟩
  cases n with
  | zero => omega
  | succ n =>
    unfold execFn
    rw [show ov0 25 = some callsG from rfl]
    exact hg
end
end Go.Pg
