/- Layer 5: the law TyRenamed. -/
import Derived.Test.YtoilldfibaeokaaDoorTyT
namespace Go.Pg
open Go.Proofs Go.Lib

theorem past_ok2 {h : Act} {v : Value} {σ τ σ' τ' : AHeap} (e : h σ = some (v, τ)) (e' : h σ' = some (v, τ')) : past h v [σ, σ'] = true := by
  simp [past, chkAt, e, e', eqv_same]

set_option maxHeartbeats 1000000 in
set_option maxRecDepth 100000 in
theorem tyRenamed_law (x0 : (tySh 7).D) (vs0 : List Value) (x1 : (tySh 7).D) (vs1 : List Value) (y : Int) (_wy : (Lit.int .i64 y).wf = true) (old0 : Addr → Option Value) (av0 : AV (unO tabsD old0) (tySh 7) x0 vs0) (ok0 : Sh.ok (tySh 7) x0) (av1 : AV (unO tabsD old0) (tySh 7) x1 vs1) (ok1 : Sh.ok (tySh 7) x1) :
    WpF PROG ovL 7 [.agg vs0.toArray, .agg vs1.toArray, .int .i64 y] (startH (unO tabsD old0)) fun v _ => v = .bool true := by
  have hO := ovL_T
  have hV0 : ∀ σ : AHeap, σ.old = unO tabsD old0 → VIn L4 σ NoB 7 vs0 (cT 7 x0) := fun σ hσ => av_T hσ 6 x0 vs0 av0 ok0
  have hV1 : ∀ σ : AHeap, σ.old = unO tabsD old0 → VIn L4 σ NoB 7 vs1 (cT 7 x1) := fun σ hσ => av_T hσ 6 x1 vs1 av1 ok1
  obtain ⟨_, _, p0, c0, e0⟩ := (hV0 (startH (unO tabsD old0)) rfl).cells
  obtain ⟨_, _, p1, c1, e1⟩ := (hV1 (startH (unO tabsD old0)) rfl).cells
  generalize cT 7 x0 = t0 at hV0 e0
  generalize cT 7 x1 = t1 at hV1 e1
  rw [e0, e1]
  refine WpF.of (T7_eq _ _ _ _ _ _ _ _ _ _ _ _ _) (hO _ (by decide) (by decide) (by decide)) ?_
  rw [T7, wp_act, newC_eq]
  simp only [asPtr_ptr, asSome_some]
  rw [wp_act, newC_eq]
  simp only [asPtr_ptr, asSome_some]
  rw [wp_call]
  refine WpF.mono (awake5 old0 t0.a t1.a p0 p1 t0.args.length t1.args.length c0 c1) ?_
  rintro _ σ1 ⟨rfl, ho1, hf1, hA1, hB1⟩
  have hV01 := hV0 σ1 ho1
  have hV11 := hV1 σ1 ho1
  rw [e0] at hV01
  rw [e1] at hV11
  rw [show (startH (unO tabsD old0)).n = 0 from rfl, show ((startH (unO tabsD old0)).newBlk (tcells t0.a (.slice p0 t0.args.length c0)) 0).n = 1 from rfl]
  rw [asBool_bool, wp_bif, if_neg (by simp), wp_join, wp_ldAll hA1 4 rfl]
  simp only [asAgg_agg, asCons_cons, asInt_int, asStr_str, asSlice_slice, asNil_nil]
  rw [wp_call]
  have hsm0 := wp_small hO 7 (Nat.le_refl _) σ1 _ t0 hV01
  rw [lev7] at hsm0
  refine WpF.mono hsm0 ?_
  rintro _ σ2 ⟨rfl, hF2⟩
  have hdone : ∀ σ' : AHeap, Wp PROG ovL (T7k2 ⟨0, 0, some 0⟩ y ⟨1, 0, some 0⟩ .normal [.bool true]) σ' fun _ vs _ => ∃ v, vs = [v] ∧ v = .bool true := fun σ' => by
    simp only [T7k2, sw_same, asCons_cons, asBool_bool, asNil_nil]
    rw [wp_bif, if_pos rfl, wp_ret]
    exact ⟨_, rfl, rfl⟩
  rw [asBool_bool, wp_bif]
  cases hb0 : bigT 7 t0 with
  | true =>
    rw [if_neg (by simp), wp_ret]
    exact hdone σ2
  | false =>
  rw [if_pos (by simp), wp_ldAll (hF2.stN hB1) 4 rfl]
  simp only [asAgg_agg, asCons_cons, asInt_int, asStr_str, asSlice_slice, asNil_nil]
  rw [wp_call]
  have hsm1 := wp_small hO 7 (Nat.le_refl _) σ2 _ t1 (hV11.frm hF2)
  rw [lev7] at hsm1
  refine WpF.mono hsm1 ?_
  rintro _ σ3 ⟨rfl, hF3⟩
  rw [asBool_bool, wp_bif]
  cases hb1 : bigT 7 t1 with
  | true =>
    rw [if_neg (by simp), wp_ret]
    exact hdone σ3
  | false =>
  rw [if_pos (by simp)]
  have hF13 := hF2.seq hF3
  have hfit0 := bigM_fits hb0
  have hfit1 := bigM_fits hb1
  have hV03 := hV01.frm hF13
  have hV13 := hV11.frm hF13
  have hA3 := hF13.stN hA1
  have hB3 := hF13.stN hB1
  have hf3 := hF13.fr hf1
  obtain ⟨u0, hu0c, hU0, hs0⟩ := full_of 7 _ t0 hV03 hfit0
  obtain ⟨u1, hu1c, hU1, hs1⟩ := full_of 7 _ t1 hV13 hfit1
  clear hV01 hV11 hsm0 hsm1 hA1 hB1
  have hfu0 : Fits nmA 7 u0 := fits_strip 7 u0 (by rw [hs0]; exact hfit0)
  have hfu1 : Fits nmA 7 u1 := fits_strip 7 u1 (by rw [hs1]; exact hfit1)
  obtain ⟨hm0, hm0'⟩ := fit_ok hfu0
  obtain ⟨hm1, hm1'⟩ := fit_ok hfu1
  -- what the calls answer
  have kGood0 := fun σ' (hF : Frm σ3 σ' NoB) => wp_Good hO (hU0.frm hF)
  have kGood1 := fun σ' (hF : Frm σ3 σ' NoB) => wp_Good hO (hU1.frm hF)
  have kSame := fun σ' (hF : Frm σ3 σ' NoB) => wp_Same hO _ σ' u0 u1 (Nat.le_refl _) (hU0.frm hF) (hU1.frm hF)
  have kShow0 := fun σ' (hF : Frm σ3 σ' NoB) => wp_Show hO ovL_I (hU0.frm hF) hm0 hm0'
  have kShow1 := fun σ' (hF : Frm σ3 σ' NoB) => wp_Show hO ovL_I (hU1.frm hF) hm1 hm1'
  have kVars0 := fun σ' (hF : Frm σ3 σ' NoB) => wp_Vars hO (hU0.frm hF) hm0
  have kVars1 := fun σ' (hF : Frm σ3 σ' NoB) => wp_Vars hO (hU1.frm hF) hm1
  have kOdd0 := fun σ' (hF : Frm σ3 σ' NoB) => wp_odd hO _ σ' u0 (Nat.le_refl _) (hU0.frm hF) ⟨7, hfu0⟩
  have kOdd1 := fun σ' (hF : Frm σ3 σ' NoB) => wp_odd hO _ σ' u1 (Nat.le_refl _) (hU1.frm hF) ⟨7, hfu1⟩
  rw [hu0c] at kGood0 kSame kShow0 kVars0 kOdd0
  rw [hu1c] at kGood1 kSame kShow1 kVars1 kOdd1
  rw [wp_ldAll hA3 4 rfl]
  simp only [asAgg_agg, asCons_cons, asInt_int, asStr_str, asSlice_slice, asNil_nil]
  rw [wp_call]
  refine WpF.mono (kGood0 σ3 (Frm.refl _ _)) ?_
  rintro _ σ4 ⟨rfl, hF4⟩
  rw [asBool_bool, wp_bif]
  cases hg0 : goodM u0 with
  | false =>
    rw [if_neg (by simp), wp_ret]
    exact hdone σ4
  | true =>
  rw [if_pos (by simp), wp_ldAll (hF4.stN hB3) 4 rfl]
  simp only [asAgg_agg, asCons_cons, asInt_int, asStr_str, asSlice_slice, asNil_nil]
  rw [wp_call]
  refine WpF.mono (kGood1 σ4 hF4) ?_
  rintro _ σ5 ⟨rfl, hF5⟩
  have hE5 := hF4.seq hF5
  rw [asBool_bool, wp_ret]
  cases hg1 : goodM u1 with
  | false => exact hdone σ5
  | true =>
  by_cases hy : 0 ≤ y ∧ y ≤ 500
  case neg =>
    rw [show ((!true || decide (y < 0)) || decide (y > 500)) = true by
      simp only [Bool.not_true, Bool.false_or, Bool.or_eq_true, decide_eq_true_eq]
      omega]
    exact hdone σ5
  rw [show ((!true || decide (y < 0)) || decide (y > 500)) = false by
    simp only [Bool.not_true, Bool.false_or, Bool.or_eq_false_iff, decide_eq_false_iff_not]
    omega]
  simp only [T7k2, sw_same, asCons_cons, asBool_bool, asNil_nil]
  rw [wp_bif, if_neg (by simp), wp_ldAll (hE5.stN hA3) 4 rfl]
  simp only [asAgg_agg, asCons_cons, asInt_int, asStr_str, asSlice_slice, asNil_nil]
  have hal0 : aloneM u0 = true := by
    unfold goodM at hg0
    rw [Bool.and_eq_true] at hg0
    exact hg0.2
  have hal1 : aloneM u1 = true := by
    unfold goodM at hg1
    rw [Bool.and_eq_true] at hg1
    exact hg1.2
  rw [wp_call]
  refine WpF.mono (wp_moved hO (y := y) 7 σ5 _ t0 (hV03.frm hE5) hfit0) ?_
  rintro _ σ6 ⟨hF6, cs0, rfl, hW0⟩
  have hfitx := fits_mov (y := y) 7 t0 hfit0
  obtain ⟨x, hxc, hX, hsx⟩ := full_of 7 _ _ hW0 hfitx
  obtain ⟨_, _, q0, d0, rfl⟩ := hW0.cells
  simp only [asAgg_agg, asCons_cons, asInt_int, asStr_str, asSlice_slice, asNil_nil]
  have hE6 := hE5.seq hF6
  refine wp_newQ fun σ7 hF7 hn7 hC7 => ?_
  refine wp_stQ hC7 rfl rfl fun σ8 hF8 hn8 hC8 => ?_
  have hF68 : Frm σ6 σ8 NoB := hF7.fresh hF8 fun i hi h => by omega
  have hE8 := hE6.seq hF68
  have hX := hX.frm hF68
  have hfx : Fits nmA 7 x := fits_strip 7 x (by rw [hsx]; exact hfitx)
  obtain ⟨hmx, hmx'⟩ := fit_ok hfx
  have kGoodX := wp_Good hO hX
  have kShowX := fun σ' (hF : Frm σ8 σ' NoB) => wp_Show hO ovL_I (hX.frm hF) hmx hmx'
  rw [show showM (nmOf 0 (varsM x [])) x = showM (nmOf 0 (varsM u0 [])) u0 from show_moved hy (by rw [hsx, hs0]) hal0] at kShowX
  rw [hxc] at kGoodX kShowX
  rw [wp_join, wp_ldAll hC8 4 rfl]
  simp only [asAgg_agg, asCons_cons, asInt_int, asStr_str, asSlice_slice, asNil_nil]
  rw [wp_call]
  refine WpF.mono kGoodX ?_
  rintro _ σ9 ⟨rfl, hF9⟩
  have hE9 := hE8.seq hF9
  -- what follows
  have last : ∀ σ' : AHeap, Frm σ3 σ' NoB → Wp PROG ovL (T7k1 ⟨0, 0, some 0⟩ ⟨1, 0, some 0⟩ .normal [.bool false]) σ' fun _ vs _ => ∃ v, vs = [v] ∧ v = .bool true := fun σ9 hE9 => by
    have fin : ∀ (σ' : AHeap) (b : Bool), b = true → Wp PROG ovL (T7k0 .normal [.bool b]) σ' fun _ vs _ => ∃ v, vs = [v] ∧ v = .bool true := fun σ' b hb => by
      subst hb
      simp only [T7k0, sw_same, asCons_cons, asBool_bool, asNil_nil]
      rw [wp_ret]
      exact ⟨_, rfl, rfl⟩
    simp only [T7k1, sw_same, asCons_cons, asBool_bool, asNil_nil]
    rw [wp_bif, if_neg (by simp), wp_join, wp_ldAll (hE9.stN hA3) 4 rfl]
    simp only [asAgg_agg, asCons_cons, asInt_int, asStr_str, asSlice_slice, asNil_nil]
    rw [wp_call]
    refine WpF.mono (kVars0 σ9 hE9) ?_
    rintro _ σ10 ⟨hF10, _, _, _, rfl, _, _⟩
    have hE10 := hE9.seq hF10
    rw [asSlice_slice, wp_bif]
    by_cases hn0 : (varsM u0 []).length = 0
    case neg =>
      rw [if_neg (by rw [decide_eq_true (by omega)]; simp), wp_ret]
      exact fin σ10 _ rfl
    rw [if_pos (by rw [decide_eq_false (by omega)]; rfl), wp_ldAll (hE10.stN hB3) 4 rfl]
    simp only [asAgg_agg, asCons_cons, asInt_int, asStr_str, asSlice_slice, asNil_nil]
    rw [wp_call]
    refine WpF.mono (kVars1 σ10 hE10) ?_
    rintro _ σ11 ⟨hF11, _, _, _, rfl, _, _⟩
    have hE11 := hE10.seq hF11
    rw [asSlice_slice, wp_bif]
    by_cases hn1 : (varsM u1 []).length = 0
    case neg =>
      rw [if_neg (by rw [decide_eq_true (by omega)]; simp), wp_ret]
      exact fin σ11 _ rfl
    rw [if_pos (by rw [decide_eq_false (by omega)]; rfl), wp_ldAll (hE11.stN hA3) 4 rfl]
    simp only [asAgg_agg, asCons_cons, asInt_int, asStr_str, asSlice_slice, asNil_nil]
    rw [wp_get, wp_call]
    refine WpF.mono (kShow0 σ11 hE11) ?_
    rintro _ σ12 ⟨rfl, hF12⟩
    have hE12 := hE11.seq hF12
    rw [asStr_str, wp_ldAll (hE12.stN hB3) 4 rfl, wp_grd]
    refine ⟨past_ok ((hE11.stN hB3).ldAll 4 rfl), ?_⟩
    simp only [asAgg_agg, asCons_cons, asInt_int, asStr_str, asSlice_slice, asNil_nil]
    rw [wp_get, wp_call]
    refine WpF.mono (kShow1 σ12 hE12) ?_
    rintro _ σ13 ⟨rfl, hF13⟩
    have hE13 := hE12.seq hF13
    rw [asStr_str, wp_ldAll (hE13.stN hA3) 4 rfl, wp_grd]
    refine ⟨past_ok2 ((hE12.stN hA3).ldAll 4 rfl) ((hE11.stN hA3).ldAll 4 rfl), ?_⟩
    simp only [asAgg_agg, asCons_cons, asInt_int, asStr_str, asSlice_slice, asNil_nil]
    rw [wp_ldAll (hE13.stN hB3) 4 rfl, wp_grd]
    refine ⟨past_ok2 ((hE12.stN hB3).ldAll 4 rfl) ((hE11.stN hB3).ldAll 4 rfl), ?_⟩
    simp only [asAgg_agg, asCons_cons, asInt_int, asStr_str, asSlice_slice, asNil_nil]
    rw [wp_call]
    refine WpF.mono (kSame σ13 hE13) ?_
    rintro _ σ14 ⟨rfl, hF14⟩
    have hE14 := hE13.seq hF14
    rw [asBool_bool, wp_bif, tl_bs, tl_bs]
    have hv0 := List.length_eq_zero_iff.1 hn0
    have hv1 := List.length_eq_zero_iff.1 hn1
    rw [hv0, hv1]
    cases hq : ((showM (nmOf 0 []) u0 == showM (nmOf 0 []) u1) == sameM u0 u1) with
    | true =>
      rw [if_neg (by simp), wp_ret]
      exact fin σ14 _ rfl
    | false =>
    rw [if_pos (by simp), wp_ldAll (hE14.stN hA3) 4 rfl]
    simp only [asAgg_agg, asCons_cons, asInt_int, asStr_str, asSlice_slice, asNil_nil]
    rw [wp_call]
    refine WpF.mono (kOdd0 σ14 hE14) ?_
    rintro _ σ15 ⟨rfl, hF15⟩
    have hE15 := hE14.seq hF15
    rw [asBool_bool, wp_bif]
    cases ho0 : oddM u0 with
    | true =>
      rw [if_neg (by simp), wp_ret]
      exact fin σ15 _ rfl
    | false =>
    rw [if_pos (by simp), wp_ldAll (hE15.stN hB3) 4 rfl]
    simp only [asAgg_agg, asCons_cons, asInt_int, asStr_str, asSlice_slice, asNil_nil]
    rw [wp_call]
    refine WpF.mono (kOdd1 σ15 hE15) ?_
    rintro _ σ16 ⟨rfl, hF16⟩
    rw [asBool_bool, wp_ret]
    refine fin σ16 _ ?_
    cases ho1 : oddM u1 with
    | true => rfl
    | false =>
      exfalso
      have w0 : WT u0 := ⟨hal0, ho0, (nov_vars u0 [] hn0).2⟩
      have w1 : WT u1 := ⟨hal1, ho1, (nov_vars u1 [] hn1).2⟩
      rcases show_same w0 w1 (nmOf 0 []) (nmOf 0 []) with h | h
      · rw [h] at hq
        simp at hq
      · exact h rfl
  rw [asBool_bool, wp_bif]
  cases hgx : goodM x with
  | false =>
    rw [if_neg (by simp), wp_ret]
    exact last σ9 hE9
  | true =>
  rw [if_pos (by simp), wp_ldAll (hF9.stN hC8) 4 rfl]
  simp only [asAgg_agg, asCons_cons, asInt_int, asStr_str, asSlice_slice, asNil_nil]
  rw [wp_get, wp_call]
  refine WpF.mono (kShowX σ9 hF9) ?_
  rintro _ σ10 ⟨rfl, hF10⟩
  have hE10 := hE9.seq hF10
  rw [asStr_str, wp_ldAll (hE10.stN hA3) 4 rfl, wp_grd]
  refine ⟨past_ok ((hE9.stN hA3).ldAll 4 rfl), ?_⟩
  simp only [asAgg_agg, asCons_cons, asInt_int, asStr_str, asSlice_slice, asNil_nil]
  rw [wp_call]
  refine WpF.mono (kShow0 σ10 hE10) ?_
  rintro _ σ11 ⟨rfl, hF11⟩
  rw [asStr_str, wp_ret, beq_self_eq_true]
  exact last σ11 (hE10.seq hF11)
end Go.Pg
