/- Layer 17: all words: Roots, Renew; rows that are copied, compared. -/
import Derived.Test.YteelimkplbfiiaaRow2
import Derived.Test.YteelimkplbfiiaaFrame3
namespace Go.Pg
open Go.Proofs

theorem wp_rdJ {P : Program} {ov : Ov} {σ : AHeap} {k : IntKind} {p : Option Addr} {l : List Int} (h : RdI σ k p l) {j : Nat} (h1 : j < l.length) (f : Int → Pg) (Q : Post) :
    Wp P ov (asSome p fun a => grd (decide (0 ≤ ((j : Nat) : Int)) && decide (((j : Nat) : Int) < ((l.length : Nat) : Int))) (.act (ld1 (aadd a (Int.toNat ((j : Nat) : Int) * 1))) fun v => asInt k v f)) σ Q = Wp P ov (f (l.getD j 0)) σ Q := by
  rw [wp_rdI h (by omega) (by omega), Int.toNat_natCast]

def flat (vs : List Fv) : List Int := vs.flatMap fun v => v.sl ++ v.ad
theorem flat_append (a b : List Fv) : flat (a ++ b) = flat a ++ flat b := by simp [flat]
theorem flat_snoc (a : List Fv) (v : Fv) : flat (a ++ [v]) = flat a ++ (v.sl ++ v.ad) := by simp [flat]
theorem flat_len (vs : List Fv) : (flat vs).length + 2 * vs.length = tot vs := by
  induction vs with
  | nil => rfl
  | cons v vs ih =>
    have e : flat (v :: vs) = (v.sl ++ v.ad) ++ flat vs := by simp [flat]
    rw [e, tot]
    simp only [List.length_append, List.length_cons, fsz]
    omega

theorem SlV.mayCut {σ : AHeap} {b cap : Nat} {p : Option Addr} {xs : List Value} (h : SlV σ b p cap xs) : mayCut p 1 = true := by
  rcases h with ⟨rfl, _⟩ | ⟨off, s, rfl, h⟩
  · rfl
  · have := h.sesz
    simp [Go.Pg.mayCut, this]

section
variable {σ : AHeap} {S room : Nat} {Y : Nat → Prop} {vs : List Fv} {v : Fv}

theorem take_succ_map {α β : Type} (f : α → β) (l : List α) (j : Nat) (h : j < l.length) : (l.take (j + 1)).map f = (l.take j).map f ++ [f l[j]] := by
  rw [List.take_succ_eq_append_getElem h, List.map_append, List.map_cons, List.map_nil]

theorem ints_take_succ (k : IntKind) (l : List Int) (j : Nat) (hj : j < l.length) : ints k (l.take (j + 1)) = ints k (l.take j) ++ [.int k (l.getD j 0)] := by
  have := take_succ_map (Value.int k) l j hj
  rw [show l.getD j 0 = l[j] by simp [List.getD, hj]]
  exact this

theorem wp_rootsK (h : Stk σ S room Y vs) {Q : Value → AHeap → Prop}
    (hQ : ∀ σ' b p cap, Frm σ σ' NoB → SlV σ' b p cap (ints .u64 (flat vs)) → (p ≠ none → σ.n ≤ b) → Q (.slice p (flat vs).length cap) σ') : WpF PROG ov0 16 [PV S] σ Q := by
  have hfit := h.fit
  have hfl := flat_len vs
  obtain ⟨h0, c, frs, h1, rfl, hY⟩ := h
  obtain ⟨p, cap, h4, h5, h6⟩ := h1.blk
  refine WpF.of (T16_eq _) rfl ?_
  rw [T16]
  simp only [asSome_some]
  rw [wp_ldF h4 rfl, asSlice_slice]
  refine Wp.count frs.length (fun j st σ' => ∃ q qcap b, st = [.int .i64 ((j : Nat) : Int), .slice q (flat ((frs.take j).map vw)).length qcap] ∧ Frm σ σ' NoB ∧ SlV σ' b q qcap (ints .u64 (flat ((frs.take j).map vw))) ∧ (q ≠ none → σ.n ≤ b)) ⟨none, 0, 0, rfl, Frm.refl _ _, .inl ⟨rfl, rfl, rfl⟩, fun h => absurd rfl h⟩ ?_ ?_
  · rintro j st σ1 hj ⟨q, qcap, b, rfl, hF1, hq, hqb⟩
    have hlen : (flat ((frs.take (j + 1)).map vw)).length ≤ 4096 := by
      have e : frs.map vw = (frs.take (j + 1)).map vw ++ (frs.drop (j + 1)).map vw := by rw [← List.map_append, List.take_append_drop]
      have := congrArg (fun l => (flat l).length) e
      simp only [flat_append, List.length_append] at this
      omega
    have hsn := take_succ_map vw frs j hj
    rw [hsn, flat_snoc] at hlen
    simp only [List.length_append] at hlen
    have hlen' : (flat ((frs.take j).map vw)).length + (frs[j].sl.length + frs[j].ad.length) ≤ 4096 := hlen
    obtain ⟨g1, soff, ss, scap, ap, acap, g2, g3, g4, g5⟩ := (h1.ok frs[j] (List.getElem_mem hj)).frm hF1 (fun _ _ h => h)
    have ho := h1.out frs[j] (List.getElem_mem hj)
    have hob := ho frs[j].b (.inl rfl)
    have hos := ho frs[j].sb (.inr (.inl rfl))
    have hoa := ho frs[j].ab (.inr (.inr rfl))
    rcases h5 with ⟨_, _, h5⟩ | ⟨off, s, rfl, h5⟩
    · simp at h5; subst h5; simp at hj
    have h5a := hF1.rowN h5
    have ej : wi64 ((j : Int) + 1) = ((j + 1 : Nat) : Int) := by
      have := hfit.2.2
      simp only [List.length_map] at this
      rw [wi64_in (by omega)]; omega
    simp only [T16b0, asCons_cons, asInt_int, asSlice_slice, asNil_nil, asSome_some]
    rw [wp_bif, if_pos (by simp; omega), wp_join, wp_grd]
    refine ⟨by simp; omega, ?_⟩
    rw [Int.toNat_natCast, wp_rowR (v := PV frs[j].b) h5a (by simp [hj]), asPtr_ptr]
    simp only [asSome_some]
    rw [wp_ldF g2 rfl, asSlice_slice, wp_get]
    refine wp_appR hq (by simp) (.inr ⟨soff, ss, rfl, g3⟩) (by simp) (by omega) (by omega) fun σ2 b2 q2 qcap2 hF2 hb2 hq2 => ?_
    have hF12 : Frm σ σ2 NoB := hF1.fresh hF2 fun i hi h => by have := hqb h.1; omega
    have hno : ∀ i, i < σ.n → ¬ (q ≠ none ∧ i = b) := fun i hi h => by have := hqb h.1; omega
    have g2a := hF2.st g2 (hno _ hob.1)
    have hld : ld1 (aadd ⟨frs[j].b, 0, some 0⟩ 3) σ1 = some (.slice ap frs[j].ad.length acap, σ1) := g2.ldF rfl
    rw [wp_ldF g2a rfl, wp_grd]
    refine ⟨past_ok hld, ?_⟩
    rw [asSlice_slice]
    have hq2b : q2 ≠ none → σ.n ≤ b2 := by
      intro h
      rcases hb2 with hb2 | ⟨hb2, rfl⟩ | hb2
      · exact absurd hb2 h
      · exact hqb hb2
      · have := hF1.n
        omega
    refine wp_appR hq2 (by simp) (g4.frm hF2 fun _ => hno _ hoa.1) (by simp) (by omega) (by omega) fun σ3 b3 q3 qcap3 hF3 hb3 hq3 => ?_
    rw [wp_ret]
    simp only [T16k0, sw_same, asCons_cons, asSlice_slice, asNil_nil]
    rw [wp_ret, ej]
    have e : flat ((frs.take (j + 1)).map vw) = flat ((frs.take j).map vw) ++ frs[j].sl ++ frs[j].ad := by rw [hsn, flat_snoc]; simp [vw]
    refine ⟨q3, qcap3, b3, ?_, hF12.fresh hF3 fun i hi h => by have := hq2b h.1; omega, ?_, ?_⟩
    · rw [e, List.length_append, List.length_append]
    · rw [e]
      unfold ints at hq3 ⊢
      rw [List.map_append, List.map_append]
      exact hq3
    · intro h
      rcases hb3 with hb3 | ⟨hb3, rfl⟩ | hb3
      · exact absurd hb3 h
      · exact hq2b hb3
      · have := hF12.n
        omega
  · rintro st σ1 ⟨q, qcap, b, rfl, hF1, hq, hqb⟩
    rw [List.take_length] at hq ⊢
    simp only [T16b0, asCons_cons, asInt_int, asSlice_slice, asNil_nil]
    rw [wp_bif, if_neg (by simp), wp_ret]
    simp only [T16k1, sw_same, asCons_cons, asInt_int, asSlice_slice, asNil_nil]
    rw [wp_ret]
    exact ⟨_, rfl, hQ σ1 b q qcap hF1 hq hqb⟩

theorem ev_addedK (h : Stk σ S room Y (vs ++ [v])) : EvF PROG ov0 21 [PV S] σ (.int .i64 ((v.ad.length : Nat) : Int)) σ := by
  obtain ⟨h0, c, fs, f, h1, rfl, rfl, hY⟩ := h.snoc
  obtain ⟨g1, soff, ss, scap, ap, acap, g2, g3, g4, g5⟩ := h1.ok f (by simp)
  refine EvF.of (T21_eq _) rfl ?_
  rw [T21, wp_call, WpF.eq (ev_top h1), asPtr_ptr, wp_bif, if_pos (by rfl)]
  simp only [asSome_some]
  rw [wp_ldF g2 rfl, asSlice_slice, wp_ret]
  exact ⟨rfl, rfl⟩

theorem wp_words17 {p : Option Addr} {l : List Int} (hst : ∀ σ', Frm σ σ' NoB → RdI σ' .u64 p l) (hs : l.length ≤ 100000) (cap : Nat) {Q : Value → AHeap → Prop}
    (hQ : ∀ σ' b p' cap', Frm σ σ' NoB → SlV σ' b p' cap' (ints .u64 l) → (p' ≠ none → σ.n ≤ b) → Q (.slice p' l.length cap') σ') : WpF PROG ov0 17 [.slice p l.length cap] σ Q := by
  refine WpF.of (T17_eq _ _ _) rfl ?_
  rw [T17]
  refine Wp.count l.length (fun j st σ' => ∃ q qcap b, st = [.int .i64 ((j : Nat) : Int), .slice q j qcap] ∧ Frm σ σ' NoB ∧ SlV σ' b q qcap (ints .u64 (l.take j)) ∧ (q ≠ none → σ.n ≤ b)) ⟨none, 0, 0, rfl, Frm.refl _ _, .inl ⟨rfl, rfl, by simp⟩, fun h => absurd rfl h⟩ ?_ ?_
  · rintro j st σ1 hj ⟨q, qcap, b, rfl, hF1, hq, hqb⟩
    have ej : wi64 ((j : Int) + 1) = ((j + 1 : Nat) : Int) := by rw [wi64_in (by omega)]; omega
    simp only [T17b0, asCons_cons, asInt_int, asSlice_slice, asNil_nil]
    rw [wp_bif, if_pos (by simp; omega), wp_join, wp_rdJ (hst σ1 hF1) hj]
    refine wp_app1 hq (by simp; omega) rfl (by omega) (by omega) fun σ2 b2 off s cap2 hF2 hb2 hR2 => ?_
    rw [wp_ret]
    simp only [T17k0, sw_same, asCons_cons, asSlice_slice, asNil_nil]
    rw [wp_ret, ej]
    have e : ints .u64 (l.take (j + 1)) = ints .u64 (l.take j) ++ [.int .u64 (l.getD j 0)] := ints_take_succ .u64 l j hj
    refine ⟨_, cap2, b2, rfl, hF1.fresh hF2 fun i hi h => by have := hqb h.1; omega, ?_, fun _ => ?_⟩
    · rw [e]
      exact .inr ⟨off, s, rfl, hR2⟩
    · rcases hb2 with ⟨hb2, rfl⟩ | hb2
      · exact hqb hb2
      · have := hF1.n
        omega
  · rintro st σ1 ⟨q, qcap, b, rfl, hF1, hq, hqb⟩
    rw [List.take_length] at hq
    simp only [T17b0, asCons_cons, asInt_int, asSlice_slice, asNil_nil]
    rw [wp_bif, if_neg (by simp), wp_ret]
    simp only [T17k1, sw_same, asCons_cons, asInt_int, asSlice_slice, asNil_nil]
    rw [wp_ret]
    exact ⟨_, rfl, hQ σ1 b q qcap hF1 hq hqb⟩

theorem wp_back19 {p : Option Addr} {l : List Int} (hst : ∀ σ', Frm σ σ' NoB → RdI σ' .u64 p l) (hs : l.length ≤ 100000) (cap : Nat) {Q : Value → AHeap → Prop}
    (hQ : ∀ σ' b p' cap', Frm σ σ' NoB → SlV σ' b p' cap' (ints .u64 l) → (p' ≠ none → σ.n ≤ b) → Q (.slice p' l.length cap') σ') : WpF PROG ov0 19 [.slice p l.length cap] σ Q := by
  refine WpF.of (T19_eq _ _ _) rfl ?_
  rw [T19]
  refine Wp.count l.length (fun j st σ' => ∃ q qcap b, st = [.int .i64 ((j : Nat) : Int), .slice q j qcap] ∧ Frm σ σ' NoB ∧ SlV σ' b q qcap (ints .u64 (l.take j)) ∧ (q ≠ none → σ.n ≤ b)) ⟨none, 0, 0, rfl, Frm.refl _ _, .inl ⟨rfl, rfl, by simp⟩, fun h => absurd rfl h⟩ ?_ ?_
  · rintro j st σ1 hj ⟨q, qcap, b, rfl, hF1, hq, hqb⟩
    have ej : wi64 ((j : Int) + 1) = ((j + 1 : Nat) : Int) := by rw [wi64_in (by omega)]; omega
    simp only [T19b0, asCons_cons, asInt_int, asSlice_slice, asNil_nil]
    rw [wp_bif, if_pos (by simp; omega), wp_join, wp_rdJ (hst σ1 hF1) hj]
    refine wp_app1 hq (by simp; omega) rfl (by omega) (by omega) fun σ2 b2 off s cap2 hF2 hb2 hR2 => ?_
    rw [wp_ret]
    simp only [T19k0, sw_same, asCons_cons, asSlice_slice, asNil_nil]
    rw [wp_ret, ej]
    have e : ints .u64 (l.take (j + 1)) = ints .u64 (l.take j) ++ [.int .u64 (l.getD j 0)] := ints_take_succ .u64 l j hj
    refine ⟨_, cap2, b2, rfl, hF1.fresh hF2 fun i hi h => by have := hqb h.1; omega, ?_, fun _ => ?_⟩
    · rw [e]
      exact .inr ⟨off, s, rfl, hR2⟩
    · rcases hb2 with ⟨hb2, rfl⟩ | hb2
      · exact hqb hb2
      · have := hF1.n
        omega
  · rintro st σ1 ⟨q, qcap, b, rfl, hF1, hq, hqb⟩
    rw [List.take_length] at hq
    simp only [T19b0, asCons_cons, asInt_int, asSlice_slice, asNil_nil]
    rw [wp_bif, if_neg (by simp), wp_ret]
    simp only [T19k1, sw_same, asCons_cons, asInt_int, asSlice_slice, asNil_nil]
    rw [wp_ret]
    exact ⟨_, rfl, hQ σ1 b q qcap hF1 hq hqb⟩

theorem ev_same20 {p q : Option Addr} {l : List Int} (hp : RdI σ .u64 p l) (hq : RdI σ .u64 q l) (hs : l.length ≤ 100000) (c1 c2 : Nat) : EvF PROG ov0 20 [.slice p l.length c1, .slice q l.length c2] σ (.bool true) σ := by
  refine EvF.of (T20_eq _ _ _ _ _ _) rfl ?_
  rw [T20, wp_bif, if_neg (by simp)]
  refine Wp.count l.length (fun j st σ' => st = [.int .i64 ((j : Nat) : Int), .bool false] ∧ σ' = σ) ⟨rfl, rfl⟩ ?_ ?_
  · rintro j st σ1 hj ⟨rfl, rfl⟩
    have ej : wi64 ((j : Int) + 1) = ((j + 1 : Nat) : Int) := by rw [wi64_in (by omega)]; omega
    simp only [T20b0, asCons_cons, asInt_int, asBool_bool, asNil_nil]
    rw [wp_bif, if_pos (by simp; omega), wp_join, wp_rdJ hp hj, wp_rdJ hq hj, wp_bif, if_neg (by simp), wp_ret]
    simp only [T20k0, sw_nr, sw_same, asCons_cons, asBool_bool, asNil_nil]
    rw [wp_ret, ej]
    exact ⟨rfl, rfl⟩
  · rintro st σ1 ⟨rfl, rfl⟩
    simp only [T20b0, asCons_cons, asInt_int, asBool_bool, asNil_nil]
    rw [wp_bif, if_neg (by simp), wp_ret]
    simp only [T20k1, sw_same, asCons_cons, asInt_int, asBool_bool, asNil_nil]
    rw [wp_ret]
    exact ⟨rfl, rfl⟩
end
end Go.Pg
