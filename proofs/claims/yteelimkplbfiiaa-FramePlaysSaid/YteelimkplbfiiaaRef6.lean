/- Layer 17: the document's stack: Cut, Renew. -/
import Derived.Test.YteelimkplbfiiaaRef5
namespace Go.Pg
open Go.Proofs

theorem St.ne_row {σ : AHeap} {S c off s cap : Nat} {cs xs : List Value} (h : St σ S cs) (k : Row σ c off s cap 4 xs) : c ≠ S := by
  rintro rfl
  obtain ⟨B, hg, _, _, he, _⟩ := k.blk
  rw [h.2] at hg
  simp only [Option.some.injEq, AObj.blk.injEq] at hg
  subst hg
  cases he

/-- What is left of frames that are cut. -/
def cutV (vs : List Fv) (d a : Nat) : List Fv := match vs[d - 1]? with
  | some v => if d = 0 then [] else vs.take (d - 1) ++ [{ v with ad := v.ad.take a }]
  | none => []
def mayCutV (vs : List Fv) (d a : Int) : Bool := decide (0 ≤ d) && decide (d ≤ (vs.length : Nat)) && decide (0 ≤ a) && (match vs[d.toNat - 1]? with
  | some v => if d.toNat = 0 then decide (a ≤ 0) else decide (a ≤ (v.ad.length : Nat))
  | none => decide (a ≤ 0))
theorem cutV_zero (vs : List Fv) (a : Nat) : cutV vs 0 a = [] := by
  unfold cutV
  split <;> simp
theorem cutV_succ {vs : List Fv} {d : Nat} (h : d < vs.length) (a : Nat) : cutV vs (d + 1) a = vs.take d ++ [{ vs[d] with ad := vs[d].ad.take a }] := by
  unfold cutV
  rw [Nat.add_sub_cancel, List.getElem?_eq_getElem h]
  simp
theorem tot_cut {vs : List Fv} {d : Nat} (h : d < vs.length) (a : Nat) : tot (cutV vs (d + 1) a) ≤ tot vs := by
  rw [cutV_succ h, tot_snoc]
  have h1 := tot_take_succ vs d h
  have h2 := tot_take_le vs (d + 1)
  have : fsz { vs[d] with ad := vs[d].ad.take a } ≤ fsz vs[d] := by simp only [fsz, List.length_take]; omega
  omega
theorem mayCut_zero (vs : List Fv) (a : Int) : mayCutV vs 0 a = (decide (0 ≤ a) && decide (a ≤ 0)) := by
  unfold mayCutV
  have e : decide ((0 : Int) ≤ (vs.length : Nat)) = true := by simp
  rw [e]
  split <;> simp
theorem mayCut_succ {vs : List Fv} {d : Nat} (h : d < vs.length) (a : Int) : mayCutV vs ((d + 1 : Nat) : Int) a = (decide (0 ≤ a) && decide (a ≤ (vs[d].ad.length : Nat))) := by
  unfold mayCutV
  have e1 : decide (0 ≤ ((d + 1 : Nat) : Int)) = true := by simp; omega
  have e2 : decide (((d + 1 : Nat) : Int) ≤ (vs.length : Nat)) = true := by simp; omega
  rw [e1, e2, Int.toNat_natCast, Nat.add_sub_cancel, List.getElem?_eq_getElem h]
  simp
theorem mayCut_out {vs : List Fv} {d : Int} (h : d < 0 ∨ d > (vs.length : Nat)) (a : Int) : mayCutV vs d a = false := by
  unfold mayCutV
  rcases h with h | h
  · have e1 : decide (0 ≤ d) = false := by simp; omega
    rw [e1]
    rfl
  · have e1 : decide (d ≤ (vs.length : Nat)) = false := by simp; omega
    rw [e1]
    simp

section
variable {σ : AHeap} {S room : Nat} {Y : Nat → Prop} {vs : List Fv}
/-- Cut. -/
theorem wp_cutR (h : RK σ S room Y vs) (d a : Int) {Q : Value → AHeap → Prop}
    (hQ0 : mayCutV vs d a = false → Q (.int .i64 1) σ) (hQ1 : mayCutV vs d a = true → ∀ σ', Frm σ σ' (fun j => ¬ Y j) → RK σ' S room Y (cutV vs d.toNat a.toNat) → Q (.int .i64 0) σ') : WpF PROG ov0 31 [PV S, .int .i64 d, .int .i64 a] σ Q := by
  obtain ⟨h0, h1, h2, c, p, n, cap, frs, h3, rfl, h5, h6, h7⟩ := h
  have hl := tot_len (frs.map rvw)
  rw [List.length_map] at hl
  have hln := h3.ln
  refine WpF.of (T31_eq _ _ _) rfl ?_
  have key : Wp PROG ov0 (T31k1 (some ⟨S, 0, some 0⟩) d a .normal [.bool (!mayCutV (frs.map rvw) d a)]) σ fun _ vs σ' => ∃ v, vs = [v] ∧ Q v σ' := by
    simp only [T31k1, sw_same, asCons_cons, asBool_bool, asNil_nil]
    rw [wp_bif]
    cases hm : mayCutV (frs.map rvw) d a with
    | false =>
      rw [if_pos (by rfl), wp_ret]
      exact ⟨_, rfl, hQ0 hm⟩
    | true =>
      have hd : 0 ≤ d ∧ d ≤ (frs.length : Nat) := by
        by_cases hh : d < 0 ∨ d > ((frs.map rvw).length : Nat)
        · rw [mayCut_out hh] at hm
          cases hm
        · rw [List.length_map] at hh
          omega
      obtain ⟨D, rfl⟩ : ∃ D : Nat, d = (D : Int) := ⟨d.toNat, by omega⟩
      rw [if_neg (by simp), wp_fld h3.st rfl, asSlice_slice, wp_grd]
      refine ⟨by simp; omega, ?_⟩
      simp only [asSome_some]
      refine wp_st1Q h3.st (by simp) rfl fun σ1 hF1 hn1 hS1 => ?_
      simp only [List.set, Int.toNat_natCast] at hS1
      rw [wp_join, wp_bif]
      have hcS : p ≠ none → c ≠ S := fun hp => by
        rcases h3.row with ⟨e, _⟩ | ⟨off, s, _, hR⟩
        · exact absurd e hp
        · exact h3.st.ne_row hR
      have hrow1 := h3.row.frm hF1 fun hp e => hcS hp e
      have htk : (rrow frs).take (D * 4) = rrow (frs.take D) := by
        have := List.take_append_drop D frs
        rw [← this, rrow_append, List.take_left' (by rw [rrow_len, List.length_take]; omega)]
        rw [List.take_append_drop]
      have hrowD : SlE σ1 c p cap 4 (rrow (frs.take D)) := by
        rcases hrow1 with ⟨e1, e2, e3⟩ | ⟨off, s, e, hR⟩
        · rw [← htk, e3]
          exact .inl ⟨e1, e2, by simp⟩
        · rw [← htk]
          exact .inr ⟨off, s, e, hR.take _⟩
      have hDl : (frs.take D).length = D := by rw [List.length_take]; omega
      have hok1 : ∀ f ∈ frs, RfOK σ1 f := fun f hf => (h3.ok f hf).frm hF1 fun j hj e => (h3.out f hf j hj).1 e
      have hmem : ∀ f ∈ frs.take D, f ∈ frs := fun f hf => List.mem_of_mem_take hf
      have hRS1 : RS σ1 S room c p D cap (frs.take D) :=
        ⟨by rw [hDl]; exact hS1, hrowD, by omega, fun hne => h3.cS (by rintro rfl; simp at hne), fun f hf => hok1 f (hmem f hf), fun f hf => h3.out f (hmem f hf), h3.sep.sublist (List.take_sublist _ _), fun f hf => h3.own f (hmem f hf)⟩
      by_cases hD : D = 0
      · subst hD
        rw [if_neg (by simp), wp_ret]
        simp only [T31k0, sw_same, asNil_nil]
        rw [wp_ret]
        refine ⟨_, rfl, hQ1 hm σ1 (hF1.any fun j e hy => by subst e; exact h5 hy) ⟨fun j hj => by rw [hn1]; exact h0 j hj, ?_, h2, c, p, 0, cap, [], by simpa using hRS1, ?_, h5, h6, fun f hf => by cases hf⟩⟩
        · rw [show ((0 : Nat) : Int).toNat = 0 from rfl, cutV_zero]
          exact Nat.zero_le _
        · rw [show ((0 : Nat) : Int).toNat = 0 from rfl, cutV_zero]
          rfl
      · obtain ⟨E, rfl⟩ : ∃ E, D = E + 1 := ⟨D - 1, by omega⟩
        have hE : E < frs.length := by omega
        have hvE : (frs.map rvw)[E]'(by simpa using hE) = rvw frs[E] := by simp
        have hmc := mayCut_succ (vs := frs.map rvw) (d := E) (by simpa using hE) a
        have hcv := cutV_succ (vs := frs.map rvw) (d := E) (by simpa using hE) a.toNat
        have htc := tot_cut (vs := frs.map rvw) (d := E) (by simpa using hE) a.toNat
        rw [hvE] at hmc hcv
        have hm2 := hm
        rw [hmc] at hm2
        simp only [Bool.and_eq_true, decide_eq_true_eq] at hm2
        have hei : wi64 (((E + 1 : Nat) : Int) - 1) = ((E : Nat) : Int) := by rw [wi64_in (by omega)]; omega
        have hvt : (frs.map rvw).take E = (frs.take E).map rvw := by rw [List.map_take]
        have hfe : frs.take (E + 1) = frs.take E ++ [frs[E]] := List.take_succ_eq_append_getElem hE
        rw [hvt] at hcv
        have hEl : (frs.take E).length = E := by rw [List.length_take]; omega
        have hmg : ∀ g ∈ frs.take E, g ∈ frs := fun g hg => List.mem_of_mem_take hg
        have hmf : frs[E] ∈ frs := List.getElem_mem hE
        rw [hfe] at hRS1
        generalize frs.take E = fs at hRS1 hEl hmg hcv
        generalize frs[E] = f at hRS1 hmf hcv hm2 hmc
        clear hfe hvt hvE
        have hokE := hok1 f hmf
        have hcc := hokE.c
        have hst1 := hRS1.st
        have hm3 : 0 ≤ a ∧ a ≤ ((f.ad.length : Nat) : Int) := hm2
        rw [if_pos (by simp), wp_ldF hst1 rfl, asSlice_slice, wp_ldF hst1 rfl, asSlice_slice, hei, ← hEl, wp_fr hRS1.row (j := fs.length) (by simp) (by decide) (by rw [last_get]; rfl), asSlice_slice, wp_grd]
        refine ⟨by simp; omega, ?_⟩
        have hal : (f.ad.take a.toNat).length = a.toNat := by rw [List.length_take]; omega
        refine wp_frW (gs := []) (f' := { f with ad := f.ad.take a.toNat, ac := a.toNat }) hRS1.row (by decide) rfl (by simp only [rcells, hal, List.set]) fun σ2 hF2 hn2 hE2 => ?_
        rw [wp_ret]
        simp only [T31k0, sw_same, asNil_nil]
        rw [wp_ret]
        have hpn := hRS1.pne
        have hcY := h6 hpn
        have hokE2 := hokE.frm hF2 fun j hj e => (h3.out f hmf j hj).2 e
        refine ⟨_, rfl, hQ1 hm σ2 (hF1.trans hF2 (fun j _ e hy => by subst e; exact h5 hy) (fun j _ e hy => by subst e; exact hcY hy)) ⟨fun j hj => by rw [hn2, hn1]; exact h0 j hj, ?_, h2, c, p, E + 1, cap, fs ++ [{ f with ad := f.ad.take a.toNat, ac := a.toNat }], ?_, ?_, h5, h6, ?_⟩⟩
        · rw [Int.toNat_natCast]
          exact Nat.le_trans htc h1
        · refine hRS1.upd (gs := []) ?_ hE2 (fun g hg => ?_) ⟨hokE2.s, ?_, by simp only [hal]; exact Nat.le_refl _⟩ (fun i hi => .inl hi) (fun i hi => .inl hi) (h3.own f hmf)
          · have := hF2.st hst1 fun e => hcS hpn e.symm
            simpa using this
          · rcases hg with hg | hg
            · exact (hok1 g (hmg g hg)).frm hF2 fun j hj e => (h3.out g (hmg g hg) j hj).2 e
            · cases hg
          · have := hokE2.a.take a.toNat
            rw [show (ints .u64 f.ad).take a.toNat = ints .u64 (f.ad.take a.toNat) by simp [ints, List.map_take]] at this
            exact this
        · rw [Int.toNat_natCast, hcv]
          simp [rvw]
        · intro g hg j hj
          simp only [List.mem_append, List.mem_cons, List.mem_nil_iff, or_false] at hg
          rcases hg with hg | rfl
          · exact h7 g (hmg g hg) j hj
          · exact h7 f hmf j hj
  rw [T31, wp_join, wp_bif]
  by_cases c1 : d < 0
  · rw [if_neg (by simp; omega), wp_ret]
    rw [mayCut_out (.inl c1)] at key
    exact key
  · rw [if_pos (by simp; omega), wp_fld h3.st rfl, asSlice_slice, wp_bif]
    by_cases c2 : d > (frs.length : Nat)
    · rw [if_neg (by simp; omega), wp_ret]
      rw [mayCut_out (.inr (by rw [List.length_map]; exact c2))] at key
      exact key
    · obtain ⟨D, rfl⟩ : ∃ D : Nat, d = (D : Int) := ⟨d.toNat, by omega⟩
      by_cases hD : D = 0
      · subst hD
        have hm := mayCut_zero (frs.map rvw) a
        rw [show ((0 : Nat) : Int) = 0 from rfl] at key ⊢
        by_cases c3 : a = 0
        · subst c3
          rw [if_pos (by simp), wp_bif, if_neg (by simp), wp_ret]
          rw [hm] at key
          exact key
        · rw [if_neg (by simp; omega), wp_ret]
          have hm' : mayCutV (frs.map rvw) 0 a = false := by rw [hm]; simp; omega
          rw [hm'] at key
          exact key
      · obtain ⟨E, rfl⟩ : ∃ E, D = E + 1 := ⟨D - 1, by omega⟩
        have hE : E < frs.length := by omega
        have hm := mayCut_succ (vs := frs.map rvw) (by simpa using hE) a
        have hei : wi64 (((E + 1 : Nat) : Int) - 1) = ((E : Nat) : Int) := by rw [wi64_in (by omega)]; omega
        simp only [List.getElem_map, rvw] at hm
        by_cases c3 : a < 0
        · rw [if_neg (by simp; omega), wp_ret]
          have hm' : mayCutV (frs.map rvw) ((E + 1 : Nat) : Int) a = false := by
            unfold rvw at *
            rw [hm]
            simp only [Bool.and_eq_false_iff, decide_eq_false_iff_not]
            omega
          rw [hm'] at key
          exact key
        · rw [if_pos (by simp; omega), wp_bif, if_pos (by simp), wp_fld h3.st rfl, asSlice_slice, hei, wp_fr h3.row hE (by decide) rfl, asSlice_slice, wp_ret]
          have hm' : (!mayCutV (frs.map rvw) ((E + 1 : Nat) : Int) a) = decide (a > ((frs[E].ad.length : Nat) : Int)) := by
            have e1 : decide (0 ≤ a) = true := by simp; omega
            unfold rvw at *
            rw [hm, e1]
            by_cases hq : a ≤ ((frs[E].ad.length : Nat) : Int)
            · simp [hq]
            · simp [hq]; omega
          rw [hm'] at key
          exact key
end
end Go.Pg
