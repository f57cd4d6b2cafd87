/- Layer 18: TapePlays. -/
import Derived.Test.YteelimkplbfiiaaDoorTape4
namespace Go.Pg
open Go.Proofs Go.Lib

abbrev shAct : Sh := .fld 0 (.int .i64) (.fld 1 (.int .i64) (.fld 2 (.int .i64) (.fld 3 (.int .i64) .fin)))

section
variable {σ : AHeap}
theorem SlV.fst {b cap c : Nat} {p : Option Addr} {l : List Int} (h : SlV σ b p cap (ints .i64 l)) : firstOf 1 l.length σ (.slice p l.length c) = some (ints .i64 l) := by
  rcases h with ⟨rfl, _, e⟩ | ⟨off, s, rfl, h⟩
  · have e' : l = [] := by simpa using e
    subst e'
    rfl
  · unfold firstOf
    have := h.rdN (i := 0) (k := l.length) (by simp)
    rw [Nat.add_zero, List.drop_zero, List.take_of_length_le (by simp)] at this
    simp only [Nat.mul_one]
    exact this
end

theorem tapePlays_law (p0 : Option Addr) (c0 : Nat) (l0 : List Int) (p3 : Option Addr) (c3 : Nat) (l3 : List (Sh.D shAct)) (old0 : Addr → Option Value)
    (rd0 : RdR (unO tabsD old0) 1 (Sh.int IntKind.i64) p0 l0) (_ok0 : (Sh.row 1 (Sh.int IntKind.i64)).ok l0) (sp0 : ∀ q, p0 = some q → q.spot = none) (rd3 : RdR (unO tabsD old0) 4 shAct p3 l3) (ok3 : (Sh.row 4 shAct).ok l3) :
    WpF PROG ovD 3 [.slice p0 l0.length c0, .slice p3 l3.length c3] (startH (unO tabsD old0)) fun v _ => v = .bool true := by
  refine WpF.of (T3_eq _ _ _ _ _ _) rfl ?_
  rw [T3, wp_call]
  refine (awake18 _).mono ?_
  rintro v σ ⟨rfl, hold, hfr⟩
  rw [asBool_bool, wp_bif, if_neg (by simp), wp_bif]
  by_cases c1 : 250 < l0.length
  · rw [if_pos (by simp; omega), wp_ret]
    exact ⟨_, rfl, rfl⟩
  rw [if_neg (by simp; omega), wp_call]
  refine wp_new (l := l0) rfl (given_nil rd0) (fun σ' h1 _ => given_fst rd0 sp0 (h1.trans hold)) (by omega) (fun h => ?_) fun h σ1 b hF1 hT1 => ?_
  · simp only [asTuple_tuple, asCons_cons, asPtr_ptr, asInt_int, asNil_nil]
    rw [wp_bif, if_pos (by simp; omega), wp_ret]
    exact ⟨_, rfl, rfl⟩
  simp only [asTuple_tuple, asCons_cons, asPtr_ptr, asInt_int, asNil_nil]
  rw [wp_bif, if_neg (by simp; omega), wp_join, wp_bif, if_pos (by rfl), wp_ret]
  simp only [T3k12, sw_same, asCons_cons, asBool_bool, asNil_nil]
  rw [wp_bif]
  by_cases c2 : 60 < l3.length
  · rw [if_pos (by simp; omega), wp_ret]
    exact ⟨_, rfl, rfl⟩
  rw [if_neg (by simp; omega)]
  refine Wp.count l3.length (fun j st σ' => ∃ vs, st = .int .i64 ((j : Nat) : Int) :: vs ∧ PlI (unO tabsD old0) b l0 j vs σ')
    ⟨_, rfl, hF1.old.trans hold, hF1.fr hfr, [], 0, 0, none, 0, 0, rfl, by simp, by simp, .inl ⟨rfl, rfl, rfl⟩, hT1.step (Frm.refl σ1 NoB) (fun _ h => h.elim) fun j h => absurd rfl h.1⟩ ?_ ?_
  · rintro j st σ2 hj ⟨_, rfl, hO2, hf2, out, rd, bf, pf, cf, cap, rfl, hcf, hoj, hR2, hT2⟩
    have ej : wi64 ((j : Int) + 1) = ((j + 1 : Nat) : Int) := by rw [wi64_in (by omega)]; omega
    have okj := ok3.2 l3[j] (List.getElem_mem hj)
    obtain ⟨x, rfl, r0, r1, r2, r3, _⟩ := rd3 j hj
    obtain ⟨_, _, _, okn, _⟩ := okj
    generalize l3[j] = d at r0 r1 r2 r3 okn
    obtain ⟨op', R', Pp', nn', _⟩ := d
    obtain ⟨op, rfl⟩ : ∃ x : Int, x = op' := ⟨_, rfl⟩
    obtain ⟨R, rfl⟩ : ∃ x : Int, x = R' := ⟨_, rfl⟩
    obtain ⟨Pp, rfl⟩ : ∃ x : Int, x = Pp' := ⟨_, rfl⟩
    obtain ⟨nn, rfl⟩ : ∃ x : Int, x = nn' := ⟨_, rfl⟩
    simp only at r0 r1 r2 r3 okn
    have hn64 : r64 nn := by
      have h2 : (Lit.int .i64 nn).wf = true := okn
      simpa [Lit.wf, IntKind.min, IntKind.max, IntKind.signed, IntKind.bits, r64] using h2
    simp only [T3b1, asCons_cons, asInt_int, asSlice_slice, asBool_bool, asNil_nil, asSome_some]
    rw [wp_bif, if_pos (by simp; omega), wp_join, wp_grdJ hj, Int.toNat_natCast]
    rw [wp_ldG hO2 (v0 := .int .i64 op) (vs := [.int .i64 R, .int .i64 Pp, .int .i64 nn]) (fun i v hv => by
      match i, hv with
      | 0, hv => cases hv; exact r0
      | 1, hv => cases hv; exact r1
      | 2, hv => cases hv; exact r2
      | 3, hv => cases hv; exact r3
      | i + 4, hv => simp at hv) 4 rfl]
    simp only [asAgg_agg, asCons_cons, asInt_int, asNil_nil]
    refine wp_newQ fun σ3 hF3 hn3 hS3 => ?_
    refine wp_stQ hS3 rfl rfl fun σ4 hF4 hn4 hX4 => ?_
    have hF24 : Frm σ2 σ4 NoB := hF3.fresh hF4 fun i hi e => by omega
    have hf4 := hF24.fr hf2
    have hO4 := hF24.old.trans hO2
    have hR4 := hR2.frm hF24 fun _ h => h
    have hbf : pf ≠ none → bf < σ2.n := fun hp => hR2.lt' hp
    have hT4 : TP σ4 b (fun i => (pf ≠ none ∧ i = bf) ∨ i = σ2.n) l0 out rd := hT2.step hF24 (fun _ h => h.elim) fun i hi => by
      rcases hi with ⟨hp, rfl⟩ | rfl
      · exact ⟨.inl ⟨hp, rfl⟩, by have := hbf hp; omega⟩
      · exact ⟨.inr (Nat.le_refl _), by omega⟩
    have hbx : pf ≠ none → bf ≠ σ2.n := fun hp => by have := hbf hp; omega
    generalize σ2.n = bx at hX4 hT4 hbx
    clear hF3 hF4 hS3 hR2 hT2 hbf hn3 hn4
    rw [wp_ldF hX4 rfl, asInt_int, wp_join]
    refine Wp.mono _ _ (fun e vs σ' => e = .normal ∧ PlI (unO tabsD old0) b l0 (j + 1) vs σ') _ ?_ ?_
    · rintro e vs σ6 ⟨rfl, hO6, hf6, out6, rd6, bf6, pf6, cf6, cap6, rfl, h6a, h6b, hR6, hT6⟩
      refine wp_after hT6 hR6 fun σ7 hF7 => ?_
      simp only [T3k10, sw_nr, sw_same, asCons_cons, asSlice_slice, asInt_int, asBool_bool, asNil_nil]
      rw [wp_ret, ej]
      refine ⟨_, rfl, hF7.old.trans hO6, hF7.fr hf6, out6, rd6, bf6, pf6, cf6, cap6, rfl, h6a, h6b, hR6.frm hF7 fun _ h => h, hT6.step hF7 (fun _ h => h.elim) fun i hi => ⟨.inl hi, ?_⟩⟩
      obtain ⟨hp, rfl⟩ := hi
      exact Nat.lt_of_lt_of_le (hR6.lt' hp) hF7.n
    -- T3k5 passes on what is normal
    have pass5 : ∀ (pf' : Option Addr) (n' c' : Nat) (i' : Int) (σ' : AHeap), PlI (unO tabsD old0) b l0 (j + 1) [.slice pf' n' c', .int .i64 i', .bool false] σ' → Wp PROG ovD (T3k5 .normal [.slice pf' n' c', .int .i64 i', .bool false]) σ' fun e vs σ' => e = .normal ∧ PlI (unO tabsD old0) b l0 (j + 1) vs σ' := by
      intro pf' n' c' i' σ' hP
      simp only [T3k5, sw_nr, sw_same, asCons_cons, asSlice_slice, asInt_int, asBool_bool, asNil_nil]
      rw [wp_ret]
      exact ⟨rfl, hP⟩
    have lessY : ∀ {σa σb : AHeap} {out' : List Int} {rd' : Nat}, TP σa b (fun i => (pf ≠ none ∧ i = bf) ∨ i = bx) l0 out' rd' → TP σa b (fun i => pf ≠ none ∧ i = bf) l0 out' rd' := fun {σa _ _ _} h => h.step (Frm.refl σa NoB) (fun _ h => h.elim) fun i hi => ⟨.inl (.inl hi), h.1 i (.inl hi)⟩
    rw [wp_join, wp_bif]
    by_cases h0 : op = 0
    · -- Read
      rw [if_pos (by simp [h0]), wp_call]
      refine wp_read hT4 fun σ5 rd' hF5 hT5 hrd => ?_
      simp only [asTuple_tuple, asCons_cons, asInt_int, asBool_bool, asNil_nil]
      have hR5 := hR4.frm hF5 fun hp h => h (.inl ⟨hp, rfl⟩)
      have hO5 := hF5.old.trans hO4
      have hf5 := hF5.fr hf4
      have done : PlI (unO tabsD old0) b l0 (j + 1) [.slice pf out.length cf, .int .i64 (rd' : Nat), .bool false] σ5 := ⟨hO5, hf5, out, rd', bf, pf, cf, cap, rfl, hcf, by omega, hR5, lessY (σb := σ5) hT5⟩
      have k1 : Wp PROG ovD (T3k1 pf out.length cf (rd : Nat) (decide (rd < l0.length)) false .normal [.bool false]) σ5 fun e vs σ' => Wp PROG ovD (T3k5 e vs) σ' fun e vs σ' => e = .normal ∧ PlI (unO tabsD old0) b l0 (j + 1) vs σ' := by
        simp only [T3k1, sw_same, asCons_cons, asBool_bool, asNil_nil]
        rw [wp_bif, if_neg (by simp), wp_join, wp_bif]
        by_cases hlt : rd < l0.length
        · rw [if_pos (by simpa using hlt), wp_ret]
          rw [if_pos hlt] at hrd
          subst hrd
          have e1 : wi64 ((rd : Int) + 1) = ((rd + 1 : Nat) : Int) := by rw [wi64_in (by omega)]; omega
          simp only [T3k0, sw_same, asCons_cons, asInt_int, asNil_nil]
          rw [wp_ret, e1]
          exact pass5 _ _ _ _ _ done
        · rw [if_neg (by simpa using hlt), wp_ret]
          rw [if_neg hlt] at hrd
          subst hrd
          simp only [T3k0, sw_same, asCons_cons, asInt_int, asNil_nil]
          rw [wp_ret]
          exact pass5 _ _ _ _ _ done
      rw [wp_join, wp_bif, if_pos (by simp), wp_bif]
      by_cases hlt : rd < l0.length
      · rw [if_pos (by simpa using hlt), wp_rdI (RdR.ints rd0 _ hO5) (by omega) (by omega), Int.toNat_natCast, wp_ret]
        have e : (l0.getD rd 0 != l0.getD rd 0 || (!decide (rd < l0.length) && l0.getD rd 0 != 0)) = false := by simp [hlt]
        rw [e]
        exact k1
      · rw [if_neg (by simpa using hlt), wp_ret]
        have hg : l0.getD rd 0 = 0 := by simp [List.getD, List.getElem?_eq_none (show l0.length ≤ rd by omega)]
        have e : (!decide (rd < l0.length) && l0.getD rd 0 != 0) = false := by rw [hg]; simp
        rw [e]
        exact k1
    · rw [if_neg (by simp [h0]), wp_join, wp_bif]
      -- T3k4 passes on what is normal
      have pass4 : ∀ (pf' : Option Addr) (n' c' : Nat) (i' : Int) (σ' : AHeap), PlI (unO tabsD old0) b l0 (j + 1) [.slice pf' n' c', .int .i64 i', .bool false] σ' → Wp PROG ovD (T3k4 .normal [.int .i64 i', .bool false, .slice pf' n' c']) σ' fun e vs σ' => Wp PROG ovD (T3k5 e vs) σ' fun e vs σ' => e = .normal ∧ PlI (unO tabsD old0) b l0 (j + 1) vs σ' := by
        intro pf' n' c' i' σ' hP
        simp only [T3k4, sw_nr, sw_same, asCons_cons, asSlice_slice, asInt_int, asBool_bool, asNil_nil]
        rw [wp_ret]
        exact pass5 _ _ _ _ _ hP
      by_cases h1 : op = 1
      · -- Print
        rw [if_pos (by simp [h1]), wp_ldF hX4 rfl, asInt_int, wp_call]
        refine wp_print hT4 hn64 (by omega) fun σ5 hF5 hT5 => ?_
        have hR5 := hR4.frm hF5 fun hp h => h (.inl ⟨hp, rfl⟩)
        have hX5 := hF5.st hX4 fun h => h (.inr rfl)
        have hO5 := hF5.old.trans hO4
        have hf5 := hF5.fr hf4
        rw [asTuple_tuple, asNil_nil, wp_get, wp_get, wp_grd]
        refine ⟨newN_ok (Nat.le_refl _) hf5 (fun b hb => by cases hb), ?_⟩
        rw [wp_act, bdSl_eq]
        simp only [asSlice_slice]
        have hF6 := Frm.new σ5 [] 1 NoB
        have hN6 := Row.new σ5 1 [] 0 (by decide) rfl (by intro x hx; cases hx)
        have hn6 := newBlk_n σ5 [] 1
        generalize σ5.newBlk [] 1 = σ6 at hF6 hN6 hn6 ⊢
        have hX6 := hF6.stN hX5
        have hR6 := hR5.frm hF6 fun _ h => h
        rw [wp_get, wp_ldF hX6 rfl, asInt_int, wp_get, wp_grd]
        refine ⟨newN_ok (by omega) (hF6.fr hf5) (fun b hb => by simp at hb; omega), ?_⟩
        rw [wp_act, bdSl_eq]
        simp only [asSlice_slice]
        have hF7 := Frm.new σ6 [.int .i64 nn] 1 NoB
        have hN7 := Row.new σ6 1 [.int .i64 nn] 1 (by decide) rfl (by intro y hy; simp at hy; subst hy; rfl)
        have hn7 := newBlk_n σ6 [.int .i64 nn] 1
        generalize σ6.newBlk [.int .i64 nn] 1 = σ7 at hF7 hN7 hn7 ⊢
        have hX7 := hF7.stN hX6
        have hR7 := hR6.frm hF7 fun _ h => h
        have hM7 := hF7.rowN hN6
        rw [wp_get]
        refine wp_appF (xs := []) (.inr ⟨0, 1, rfl, hM7⟩) rfl hR7.fst (ints_one _ _) (by simp) (by omega) (by omega) fun σ8 b8 p8 c8 hF8 hb8 hR8 => ?_
        rw [List.nil_append] at hR8
        have hX8 : St σ8 bx _ := hF8.st hX7 fun h => by
          have := h.2
          have := hX5.1
          omega
        have hN8 : Row σ8 σ6.n 0 1 1 1 [.int .i64 nn] := hF8.row hN7 fun h => by
          have := h.2
          omega
        rw [wp_get, wp_grd]
        refine ⟨chks_one (hX8.ldF rfl), ?_⟩
        rw [wp_get, wp_grd]
        refine ⟨chkO_one (hF8.get _ (by omega) fun h => by have := h.2; omega), ?_⟩
        have hp8 : p8 ≠ none → σ5.n ≤ b8 ∧ b8 ≠ σ6.n := fun hp => by
          rcases hb8 with h | ⟨_, h⟩ | h
          · exact absurd h hp
          · omega
          · omega
        refine wp_appR hR8 (by simp) (.inr ⟨0, 1, rfl, hN8⟩) rfl (by first | omega | (simp; omega)) (by first | omega | (simp; omega)) fun σ9 b9 p9 c9 hF9 hb9 hR9 => ?_
        have hF59 : Frm σ5 σ9 NoB := ((hF6.seq hF7).fresh hF8 fun i hi h => by have := h.2; omega).fresh hF9 fun i hi h => by
          have := hp8 h.1
          have := h.2
          omega
        rw [wp_ret]
        have ei : ints .i64 (out ++ [nn]) = ints .i64 out ++ [.int .i64 nn] := by simp [ints]
        have h89 : p9 ≠ none → σ5.n ≤ b9 := fun hp => by
          have := hF8.n
          rcases hb9 with h | ⟨hp8', h⟩ | h
          · exact absurd h hp
          · have := hp8 hp8'
            omega
          · omega
        have hcap9 := hR9.cap
        rw [← ei] at hR9 hcap9
        simp only [List.length_map] at hcap9
        have hlen9 : 0 + out.length + [Value.int .i64 nn].length = (out ++ [nn]).length := by simp
        refine pass4 _ _ _ _ _ ⟨hF59.old.trans hO5, hF59.fr hf5, out ++ [nn], rd, b9, p9, c9, c9, by rw [← hlen9]; rfl, hcap9, by simp; omega, hR9, hT5.step hF59 (fun _ h => h.elim) fun i hi => ?_⟩
        obtain ⟨hp, rfl⟩ := hi
        exact ⟨.inr (h89 hp), hR9.lt' hp⟩
      · -- Back
        rw [if_neg (by simp [h1]), wp_join]
        have key : Wp PROG ovD (T3k3 ⟨bx, 0, some 0⟩ (some ⟨b, 0, some 0⟩) (rd : Nat) pf out.length cf false .normal [.bool (mayB rd out.length R Pp)]) σ4 fun e vs σ' => Wp PROG ovD (T3k4 e vs) σ' fun e vs σ' => Wp PROG ovD (T3k5 e vs) σ' fun e vs σ' => e = .normal ∧ PlI (unO tabsD old0) b l0 (j + 1) vs σ' := by
          simp only [T3k3, sw_same, asCons_cons, asBool_bool, asNil_nil]
          rw [wp_ldF hX4 rfl, asInt_int, wp_ldF hX4 rfl, asInt_int, wp_call]
          refine wp_back hT4 R Pp (fun hm σ5 hF5 hT5 => ?_) fun hm => ?_
          · have hR5 := hR4.frm hF5 fun hp h => h (.inl ⟨hp, rfl⟩)
            have hX5 := hF5.st hX4 fun h => h (.inr rfl)
            have hO5 := hF5.old.trans hO4
            have hf5 := hF5.fr hf4
            rw [hm, asInt_int, wp_bif, if_neg (by simp), wp_join, wp_bif, if_pos rfl, wp_ldF hX5 rfl, asInt_int, wp_ldF hX5 rfl, asInt_int, wp_ldF hX5 rfl, asInt_int, wp_grd]
            simp only [mayB, Bool.and_eq_true, decide_eq_true_eq] at hm
            obtain ⟨⟨⟨m1, m2⟩, m3⟩, m4⟩ := hm
            refine ⟨by simp; omega, ?_⟩
            rw [wp_ret]
            simp only [T3k2, sw_same, asCons_cons, asSlice_slice, asInt_int, asNil_nil]
            rw [wp_ret]
            have htk : (out.take Pp.toNat).length = Pp.toNat := by rw [List.length_take]; omega
            refine pass4 _ _ _ _ _ ⟨hO5, hf5, out.take Pp.toNat, R.toNat, bf, pf, Pp.toNat, cap, ?_, by omega, by omega, ?_, lessY (σb := σ5) hT5⟩
            · rw [htk, show ((R.toNat : Nat) : Int) = R by omega]
            · rw [show ints .i64 (out.take Pp.toNat) = (ints .i64 out).take Pp.toNat by simp [ints, List.map_take]]
              exact hR5.take _
          · rw [hm, asInt_int, wp_bif, if_neg (by simp), wp_join, wp_bif, if_neg (by simp), wp_ret]
            simp only [T3k2, sw_same, asCons_cons, asSlice_slice, asInt_int, asNil_nil]
            rw [wp_ret]
            exact pass4 _ _ _ _ _ ⟨hO4, hf4, out, rd, bf, pf, cf, cap, rfl, hcf, by omega, hR4, lessY (σb := σ4) hT4⟩
        rw [wp_ldF hX4 rfl, asInt_int, wp_bif]
        by_cases c1 : R < 0
        · have hm : mayB rd out.length R Pp = false := by simp [mayB]; omega
          rw [hm] at key
          rw [if_neg (by simp; omega), wp_ret]
          exact key
        · rw [if_pos (by simp; omega), wp_ldF hX4 rfl, asInt_int, wp_bif]
          by_cases c2 : R > (rd : Int)
          · have hm : mayB rd out.length R Pp = false := by simp [mayB]; omega
            rw [hm] at key
            rw [if_neg (by simp; omega), wp_ret]
            exact key
          · rw [if_pos (by simp; omega), wp_ldF hX4 rfl, asInt_int, wp_bif]
            by_cases c3 : Pp < 0
            · have hm : mayB rd out.length R Pp = false := by simp [mayB]; omega
              rw [hm] at key
              rw [if_neg (by simp; omega), wp_ret]
              exact key
            · rw [if_pos (by simp; omega), wp_ldF hX4 rfl, asInt_int, wp_ret]
              have hm : mayB rd out.length R Pp = decide (Pp ≤ ((out.length : Nat) : Int)) := by
                have a1 : decide (0 ≤ R) = true := by simp; omega
                have a2 : decide (R ≤ (rd : Int)) = true := by simp; omega
                have a3 : decide (0 ≤ Pp) = true := by simp; omega
                rw [mayB, a1, a2, a3]
                simp
              rw [hm] at key
              exact key
  · rintro st σ2 ⟨_, rfl, hO2, hf2, out, rd, bf, pf, cf, cap, rfl, _⟩
    simp only [T3b1, asCons_cons, asInt_int, asSlice_slice, asBool_bool, asNil_nil]
    rw [wp_bif, if_neg (by simp), wp_ret]
    simp only [T3k11, sw_same, asCons_cons, asInt_int, asSlice_slice, asBool_bool, asNil_nil]
    rw [wp_ret]
    exact ⟨_, rfl, rfl⟩
end Go.Pg
