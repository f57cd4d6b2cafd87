/- Layer 17: the document's stack: Calls, Roots. -/
import Derived.Test.YteelimkplbfiiaaRef4
namespace Go.Pg
open Go.Proofs

section
variable {σ : AHeap} {S room : Nat} {Y : Nat → Prop} {vs : List Fv}
def callsV (vs : List Fv) : List Int := (vs.map Fv.call).reverse
/-- Calls. -/
theorem wp_callsR (h : RK σ S room Y vs) {Q : Value → AHeap → Prop}
    (hQ : ∀ σ' b p c, Frm σ σ' NoB → SlV σ' b p c (ints .i64 (callsV vs)) → (p ≠ none → σ.n ≤ b) → Q (.slice p (callsV vs).length c) σ') : WpF PROG ov0 36 [PV S] σ Q := by
  obtain ⟨h0, h1, h2, c, p, nn, cap, frs, h3, rfl, h5, h6, h7⟩ := h
  have hl := tot_len (frs.map rvw)
  rw [List.length_map] at hl
  have hcl : (callsV (frs.map rvw)).length = frs.length := by simp [callsV]
  refine WpF.of (T36_eq _) rfl ?_
  rw [T36, wp_fld h3.st rfl, asSlice_slice]
  refine Wp.count frs.length (fun j st σ' => Frm σ σ' NoB ∧ ∃ b q cc, st = [.int .i64 (((frs.length : Nat) : Int) - 1 - (j : Nat)), .slice q j cc] ∧ SlV σ' b q cc (ints .i64 ((callsV (frs.map rvw)).take j)) ∧ (q ≠ none → σ.n ≤ b))
    ⟨Frm.refl _ _, 0, none, 0, by rw [wi64_in (by omega)]; simp, .inl ⟨rfl, rfl, rfl⟩, fun h => absurd rfl h⟩ ?_ ?_
  · rintro j st σ2 hj ⟨hF2, b, q, cc, rfl, hR2, hb2⟩
    obtain ⟨m, hm⟩ : ∃ m, frs.length = j + 1 + m := ⟨frs.length - 1 - j, by omega⟩
    have hmi : ((frs.length : Nat) : Int) - 1 - (j : Nat) = ((m : Nat) : Int) := by omega
    have hml : m < frs.length := by omega
    have h32 := h3.frm hF2 (fun h => h) (fun _ h => h) fun _ _ _ _ h => h
    simp only [T36b0, asCons_cons, asInt_int, asSlice_slice, asNil_nil, hmi]
    rw [wp_bif, if_pos (by simp), wp_join, wp_fld h32.st rfl, asSlice_slice, wp_fr h32.row (j := m) hml (by decide) rfl, asInt_int]
    have hlt : ((callsV (frs.map rvw)).take j).length = j := by rw [List.length_take, hcl]; omega
    refine wp_app1 hR2 (by rw [List.length_map, hlt]) rfl (by omega) (by omega) fun σ3 b' off s cap' hF3 hb' hR3 => ?_
    rw [wp_ret]
    simp only [T36k0, sw_same, asCons_cons, asSlice_slice, asNil_nil]
    rw [wp_ret]
    have e1 : wi64 ((m : Int) - 1) = ((frs.length : Nat) : Int) - 1 - ((j + 1 : Nat) : Int) := by rw [wi64_in (by omega)]; omega
    have hg : (callsV (frs.map rvw)).take (j + 1) = (callsV (frs.map rvw)).take j ++ [frs[m].call] := by
      rw [List.take_succ_eq_append_getElem (by rw [hcl]; omega)]
      congr 2
      simp only [callsV, List.getElem_reverse, List.length_map, List.getElem_map, rvw]
      congr 2
      omega
    refine ⟨hF2.fresh hF3 fun i hi e => by have := hb2 e.1; have := e.2; omega, b', _, cap', by rw [e1], .inr ⟨off, s, rfl, ?_⟩, fun _ => ?_⟩
    · rw [hg, show ints .i64 ((callsV (frs.map rvw)).take j ++ [frs[m].call]) = ints .i64 ((callsV (frs.map rvw)).take j) ++ [.int .i64 frs[m].call] by simp [ints]]
      exact hR3
    · have := hF2.n
      rcases hb' with ⟨hp, rfl⟩ | h
      · exact hb2 hp
      · omega
  · rintro st σ2 ⟨hF2, b, q, cc, rfl, hR2, hb2⟩
    have hmi : ((frs.length : Nat) : Int) - 1 - (frs.length : Nat) = -1 := by omega
    simp only [T36b0, asCons_cons, asInt_int, asSlice_slice, asNil_nil, hmi]
    rw [wp_bif, if_neg (by simp), wp_ret]
    simp only [T36k1, sw_same, asCons_cons, asInt_int, asSlice_slice, asNil_nil]
    rw [wp_ret]
    rw [List.take_of_length_le (by omega)] at hR2
    have := hQ σ2 b q cc hF2 hR2 hb2
    rw [hcl] at this
    exact ⟨_, rfl, this⟩

/-- Roots. -/
theorem wp_rootsR (h : RK σ S room Y vs) {Q : Value → AHeap → Prop}
    (hQ : ∀ σ' b p c, Frm σ σ' NoB → SlV σ' b p c (ints .u64 (flat vs)) → (p ≠ none → σ.n ≤ b) → Q (.slice p (flat vs).length c) σ') : WpF PROG ov0 37 [PV S] σ Q := by
  obtain ⟨h0, h1, h2, c, p, nn, cap, frs, h3, rfl, h5, h6, h7⟩ := h
  have hl := tot_len (frs.map rvw)
  rw [List.length_map] at hl
  refine WpF.of (T37_eq _) rfl ?_
  rw [T37]
  refine Wp.count frs.length (fun j st σ' => Frm σ σ' NoB ∧ ∃ b q cc, st = [.int .i64 (j : Nat), .slice q (flat ((frs.map rvw).take j)).length cc] ∧ SlV σ' b q cc (ints .u64 (flat ((frs.map rvw).take j))) ∧ (q ≠ none → σ.n ≤ b))
    ⟨Frm.refl _ _, 0, none, 0, rfl, .inl ⟨rfl, rfl, rfl⟩, fun h => absurd rfl h⟩ ?_ ?_
  · rintro j st σ2 hj ⟨hF2, b, q, cc, rfl, hR2, hb2⟩
    have h32 := h3.frm hF2 (fun h => h) (fun _ h => h) fun _ _ _ _ h => h
    have e1 : wi64 ((j : Int) + 1) = ((j + 1 : Nat) : Int) := by rw [wi64_in (by omega)]; omega
    have hok := h32.ok frs[j] (List.getElem_mem hj)
    have htk : flat ((frs.map rvw).take (j + 1)) = flat ((frs.map rvw).take j) ++ (frs[j].sl ++ frs[j].ad) := by
      rw [List.take_succ_eq_append_getElem (by simpa using hj), flat_snoc]
      simp [rvw]
    have hfl := flat_len ((frs.map rvw).take (j + 1))
    have hle := tot_take_le (frs.map rvw) (j + 1)
    have hlen2 := congrArg List.length htk
    simp only [List.length_append] at hlen2
    simp only [T37b0, asCons_cons, asInt_int, asSlice_slice, asNil_nil]
    rw [wp_fld h32.st rfl, asSlice_slice, wp_bif, if_pos (by simp; omega), wp_join, wp_fld h32.st rfl, asSlice_slice, wp_fr h32.row hj (by decide) rfl, asSlice_slice, wp_get]
    have hs1 := hok.s.fst (c := frs[j].sc)
    rw [ints_len] at hs1
    refine wp_apE hR2.toE (by decide) (by decide) (by simp) (by have := hR2.cap; simpa using this) hs1 (ints_one _ _) (by simp) (by omega) (by omega) fun σ3 b3 p3 c3 hF3 hb3 hR3 hc3 => ?_
    have hF03 : Frm σ σ3 NoB := hF2.fresh hF3 fun i hi e => by have := hb2 e.1; have := e.2; omega
    have h33 := h3.frm hF03 (fun h => h) (fun _ h => h) fun _ _ _ _ h => h
    have hok3 := h33.ok frs[j] (List.getElem_mem hj)
    have eS2 : (ld1 (aadd (PA S) 1)) σ2 = some (.slice p frs.length nn, σ2) := h32.st.ldF rfl
    have eS3 : (ld1 (aadd (PA S) 1)) σ3 = some (.slice p frs.length nn, σ3) := h33.st.ldF rfl
    simp only [asSome_some]
    rw [wp_act, eS3]
    simp only
    rw [wp_grd]
    refine ⟨past_ok eS2, ?_⟩
    rw [asSlice_slice]
    obtain ⟨off, s, rfl, hRr2⟩ : ∃ off s, p = some ⟨c, off, some s⟩ ∧ Row σ2 c off s cap 4 (rrow frs) := by
      rcases h32.row with ⟨_, _, e⟩ | h
      · have := rrow_len frs
        rw [e] at this
        simp at this
        omega
      · exact h
    have hRr3 : Row σ3 c off s cap 4 (rrow frs) := by
      rcases h33.row with ⟨e, _⟩ | ⟨off', s', e, h⟩
      · cases e
      · cases e
        exact h
    have hv : (rrow frs)[j * 4 + 3]? = some (.slice frs[j].ap frs[j].ad.length frs[j].ac) := by rw [rrow_get frs j hj 3 (by decide)]; rfl
    have e2 : ld1 (aadd (aadd ⟨c, off, some s⟩ (j * 4)) 3) σ2 = some (.slice frs[j].ap frs[j].ad.length frs[j].ac, σ2) := by
      have := hRr2.ld hv
      rw [show aadd (aadd ⟨c, off, some s⟩ (j * 4)) 3 = ⟨c, off + (j * 4 + 3), some s⟩ from by simp [aadd, Nat.add_assoc]]
      exact this
    have e3 : ld1 (aadd (aadd ⟨c, off, some s⟩ (j * 4)) 3) σ3 = some (.slice frs[j].ap frs[j].ad.length frs[j].ac, σ3) := by
      have := hRr3.ld hv
      rw [show aadd (aadd ⟨c, off, some s⟩ (j * 4)) 3 = ⟨c, off + (j * 4 + 3), some s⟩ from by simp [aadd, Nat.add_assoc]]
      exact this
    simp only [asSome_some]
    have e0 : (decide (0 ≤ ((j : Nat) : Int)) && decide (((j : Nat) : Int) < ((frs.length : Nat) : Int))) = true := by simp; omega
    rw [wp_grd, e0, Int.toNat_natCast, wp_act, e3]
    refine ⟨rfl, ?_⟩
    simp only
    rw [wp_grd]
    refine ⟨past_ok e2, ?_⟩
    rw [asSlice_slice]
    have hs2 := hok3.a.fst (c := frs[j].ac)
    rw [ints_len] at hs2
    refine wp_apE hR3 (by decide) (by decide) (by simp) hc3 hs2 (ints_one _ _) (by simp) (by omega) (by omega) fun σ4 b4 p4 c4 hF4 hb4 hR4 hc4 => ?_
    rw [wp_ret]
    simp only [T37k0, sw_same, asCons_cons, asSlice_slice, asNil_nil]
    rw [wp_ret, e1]
    have hn2 := hF2.n
    have hn3 := hF3.n
    have hb3' : p3 ≠ none → σ.n ≤ b3 := fun hp => by
      rcases hb3 with h | ⟨hq, rfl⟩ | h
      · exact absurd h hp
      · exact hb2 hq
      · omega
    refine ⟨hF03.fresh hF4 fun i hi e => by have := hb3' e.1; have := e.2; omega, b4, p4, c4, ?_, ?_, fun hp => ?_⟩
    · rw [hlen2, Nat.add_assoc]
    · have ei : ints .u64 (flat ((frs.map rvw).take (j + 1))) = ints .u64 (flat ((frs.map rvw).take j)) ++ ints .u64 frs[j].sl ++ ints .u64 frs[j].ad := by rw [htk]; simp [ints]
      rw [ei]
      exact hR4
    · rcases hb4 with h | ⟨hq, rfl⟩ | h
      · exact absurd h hp
      · exact hb3' hq
      · omega
  · rintro st σ2 ⟨hF2, b, q, cc, rfl, hR2, hb2⟩
    have h32 := h3.frm hF2 (fun h => h) (fun _ h => h) fun _ _ _ _ h => h
    simp only [T37b0, asCons_cons, asInt_int, asSlice_slice, asNil_nil]
    rw [wp_fld h32.st rfl, asSlice_slice, wp_bif, if_neg (by simp), wp_ret]
    simp only [T37k1, sw_same, asCons_cons, asInt_int, asSlice_slice, asNil_nil]
    rw [wp_ret]
    rw [List.take_of_length_le (by simp)] at hR2 ⊢
    exact ⟨_, rfl, hQ σ2 b q cc hF2 hR2 hb2⟩
end
end Go.Pg
