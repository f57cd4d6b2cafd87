/- Layer 5: the law TySays. -/
import Derived.Test.YtoilldfibaeokaaDoorTyZ
namespace Go.Pg
open Go.Proofs Go.Lib

set_option maxHeartbeats 1000000 in
set_option maxRecDepth 100000 in
theorem tySays_law (x0 : (tySh 7).D) (vs0 : List Value) (x1 : (tySh 7).D) (vs1 : List Value) (old0 : Addr → Option Value) (av0 : AV (unO tabsD old0) (tySh 7) x0 vs0) (ok0 : Sh.ok (tySh 7) x0) (av1 : AV (unO tabsD old0) (tySh 7) x1 vs1) (ok1 : Sh.ok (tySh 7) x1) :
    WpF PROG ovL 5 [.agg vs0.toArray, .agg vs1.toArray] (startH (unO tabsD old0)) fun v _ => v = .bool true := by
  have hO := ovL_T
  have hV0 : ∀ σ : AHeap, σ.old = unO tabsD old0 → VIn L4 σ NoB 7 vs0 (cT 7 x0) := fun σ hσ => av_T hσ 6 x0 vs0 av0 ok0
  have hV1 : ∀ σ : AHeap, σ.old = unO tabsD old0 → VIn L4 σ NoB 7 vs1 (cT 7 x1) := fun σ hσ => av_T hσ 6 x1 vs1 av1 ok1
  obtain ⟨_, _, p0, c0, e0⟩ := (hV0 (startH (unO tabsD old0)) rfl).cells
  obtain ⟨_, _, p1, c1, e1⟩ := (hV1 (startH (unO tabsD old0)) rfl).cells
  generalize cT 7 x0 = t0 at hV0 e0
  generalize cT 7 x1 = t1 at hV1 e1
  rw [e0, e1]
  refine WpF.of (T5_eq _ _ _ _ _ _ _ _ _ _ _ _) (hO _ (by decide) (by decide) (by decide)) ?_
  rw [T5, wp_act, newC_eq]
  simp only [asPtr_ptr, asSome_some]
  rw [wp_act, newC_eq]
  simp only [asPtr_ptr, asSome_some]
  rw [wp_call]
  refine WpF.mono (awake5 old0 t0.a t1.a p0 p1 t0.args.length t1.args.length c0 c1) ?_
  rintro _ σ1 ⟨rfl, ho1, hf1, hA1, hB1⟩
  have hV01 := hV0 σ1 ho1
  have hV11 := hV1 σ1 ho1
  rw [e0] at hV01
  rw [e1] at hV11
  rw [show (startH (unO tabsD old0)).n = 0 from rfl, show ((startH (unO tabsD old0)).newBlk (tcells t0.a (.slice p0 t0.args.length c0)) 0).n = 1 from rfl]
  rw [asBool_bool, wp_bif, if_neg (by simp), wp_join, wp_ldAll hA1 4 rfl]
  simp only [asAgg_agg, asCons_cons, asInt_int, asStr_str, asSlice_slice, asNil_nil]
  rw [wp_call]
  have hsm0 := wp_small hO 7 (Nat.le_refl _) σ1 _ t0 hV01
  rw [lev7] at hsm0
  refine WpF.mono hsm0 ?_
  rintro _ σ2 ⟨rfl, hF2⟩
  have hdone : ∀ σ' : AHeap, Wp PROG ovL (T5k1 ⟨0, 0, some 0⟩ ⟨1, 0, some 0⟩ .normal [.bool true]) σ' fun _ vs _ => ∃ v, vs = [v] ∧ v = .bool true := fun σ' => by
    simp only [T5k1, sw_same, asCons_cons, asBool_bool, asNil_nil]
    rw [wp_bif, if_pos rfl, wp_ret]
    exact ⟨_, rfl, rfl⟩
  rw [asBool_bool, wp_bif]
  cases hb0 : bigT 7 t0 with
  | true =>
    rw [if_neg (by simp), wp_ret]
    exact hdone σ2
  | false =>
  rw [if_pos (by simp), wp_ldAll (hF2.stN hB1) 4 rfl]
  simp only [asAgg_agg, asCons_cons, asInt_int, asStr_str, asSlice_slice, asNil_nil]
  rw [wp_call]
  have hsm1 := wp_small hO 7 (Nat.le_refl _) σ2 _ t1 (hV11.frm hF2)
  rw [lev7] at hsm1
  refine WpF.mono hsm1 ?_
  rintro _ σ3 ⟨rfl, hF3⟩
  rw [asBool_bool, wp_ret]
  cases hb1 : bigT 7 t1 with
  | true => exact hdone σ3
  | false =>
  have hF13 := hF2.seq hF3
  have hfit0 := bigM_fits hb0
  have hfit1 := bigM_fits hb1
  have hV03 := hV01.frm hF13
  have hV13 := hV11.frm hF13
  have hA3 := hF13.stN hA1
  have hB3 := hF13.stN hB1
  have hf3 := hF13.fr hf1
  obtain ⟨u0, hu0c, hU0, hs0⟩ := full_of 7 _ t0 hV03 hfit0
  obtain ⟨u1, hu1c, hU1, hs1⟩ := full_of 7 _ t1 hV13 hfit1
  clear hV01 hV11 hsm0 hsm1 hA1 hB1
  simp only [T5k1, sw_same, asCons_cons, asBool_bool, asNil_nil, Bool.not_false]
  rw [wp_bif, if_neg (by simp), wp_get, wp_ldAll hA3 4 rfl]
  simp only [asAgg_agg, asCons_cons, asInt_int, asStr_str, asSlice_slice, asNil_nil]
  rw [wp_ldAll hB3 4 rfl]
  simp only [asAgg_agg, asCons_cons, asInt_int, asStr_str, asSlice_slice, asNil_nil]
  rw [wp_get, wp_grd]
  refine ⟨newN_ok (Nat.le_refl _) hf3 (fun b hb => by cases hb), ?_⟩
  refine wp_newQ fun σ4 hF4 hn4 hC4 => ?_
  rw [wp_get, wp_get, wp_grd]
  have hf4 := hF4.fr hf3
  refine ⟨newN_ok (by omega) hf4 (fun b hb => by simp at hb; omega), ?_⟩
  refine wp_newQ fun σ5 hF5 hn5 hD5 => ?_
  have hC5 := hF5.stN hC4
  have hF35 := hF4.seq hF5
  rw [wp_get, wp_call]
  have h1 := hA3.1
  have h2 := hB3.1
  refine WpF.mono (wp_ty1 hO 7 σ5 _ t0 (hV03.frm hF35) hfit0) ?_
  rintro _ σ6 ⟨hF6, cs0, rfl, hW0⟩
  obtain ⟨_, _, q0, d0, rfl⟩ := hW0.cells
  simp only [asAgg_agg, asCons_cons, asInt_int, asStr_str, asSlice_slice, asNil_nil]
  rw [wp_get, wp_grd]
  refine ⟨chks_one (((hF35.seq hF6).stN hB3).ldAll 4 rfl), ?_⟩
  have hcO : ∀ σ', Frm σ5 σ' NoB → chkO [(σ4.n, σ5.get σ4.n), (σ3.n, σ4.get σ3.n)] σ' = true := fun σ' hF => by
    unfold chkO chkO chkO
    rw [hF.get σ4.n (by omega) (fun h => h), hF.get σ3.n (by omega) (fun h => h), hF5.get σ3.n (by omega) (fun h => h), objEq_refl, objEq_refl]
    rfl
  rw [wp_get, wp_grd]
  refine ⟨hcO _ hF6, ?_⟩
  rw [wp_call]
  refine WpF.mono (wp_ty1 hO 7 σ6 _ t1 (hV13.frm (hF35.seq hF6)) hfit1) ?_
  rintro _ σ7 ⟨hF7, cs1, rfl, hW1⟩
  obtain ⟨_, _, q1, d1, rfl⟩ := hW1.cells
  simp only [asAgg_agg, asCons_cons, asInt_int, asStr_str, asSlice_slice, asNil_nil]
  rw [wp_get, wp_grd]
  refine ⟨hcO _ (hF6.seq hF7), ?_⟩
  have hn6 := hF6.n
  have hn7 := hF7.n
  refine wp_stQ (hF7.stN (hF6.stN hC5)) rfl rfl fun σ8 hF8 hn8 hC8 => ?_
  refine wp_stQ (hF8.st (hF7.stN (hF6.stN hD5)) (by omega)) rfl rfl fun σ9 hF9 hn9 hD9 => ?_
  have hC9 := hF9.st hC8 (by omega)
  have hF39 : Frm σ3 σ9 NoB := ((hF35.seq (hF6.seq hF7)).fresh hF8 fun i hi h => by omega).fresh hF9 fun i hi h => by omega
  have hf9 := hF39.fr hf3
  have hA9 := hF39.stN hA3
  have hB9 := hF39.stN hB3
  have hU0 := hU0.frm hF39
  have hU1 := hU1.frm hF39
  have hW0 : VIn L4 σ9 NoB 7 _ t0 := (((hW0.frm hF7).step (Y' := fun j => j < σ5.n) hF8 (fun i hi h => by omega) (fun i hi h => h)).step (Y' := fun j => j < σ5.n) hF9 (fun i hi h => by omega) (fun i hi h => h)).step (Frm.refl σ9 NoB) (fun i hi h => h.elim) (fun i hi h => h.elim)
  have hW1 : VIn L4 σ9 NoB 7 _ t1 := ((hW1.step (Y' := fun j => j < σ6.n) hF8 (fun i hi h => by omega) (fun i hi h => h)).step (Y' := fun j => j < σ6.n) hF9 (fun i hi h => by omega) (fun i hi h => h)).step (Frm.refl σ9 NoB) (fun i hi h => h.elim) (fun i hi h => h.elim)
  obtain ⟨w0, hw0c, hX0, hr0⟩ := full_of 7 _ t0 hW0 hfit0
  obtain ⟨w1, hw1c, hX1, hr1⟩ := full_of 7 _ t1 hW1 hfit1
  rw [← hs0] at hr0
  rw [← hs1] at hr1
  rw [← hs0] at hfit0
  rw [← hs1] at hfit1
  obtain ⟨hm0, hm0'⟩ := fit_ok (fits_strip 7 u0 hfit0)
  rw [← hr0] at hfit0
  obtain ⟨hm1, hm1'⟩ := fit_ok (fits_strip 7 w0 hfit0)
  -- what the calls answer
  have kGood := fun σ' (hF : Frm σ9 σ' NoB) => wp_Good hO (hU0.frm hF)
  have kGoodR := fun σ' (hF : Frm σ9 σ' NoB) => wp_GoodR hO (hX0.frm hF)
  have kSame := fun σ' (hF : Frm σ9 σ' NoB) => wp_Same hO _ σ' u0 u1 (Nat.le_refl _) (hU0.frm hF) (hU1.frm hF)
  have kSameR := fun σ' (hF : Frm σ9 σ' NoB) => wp_SameR hO _ σ' w0 w1 (Nat.le_refl _) (hX0.frm hF) (hX1.frm hF)
  have kSize := fun σ' (hF : Frm σ9 σ' NoB) => wp_Size hO (hU0.frm hF)
  have kSizeR := fun σ' (hF : Frm σ9 σ' NoB) => wp_SizeR hO _ σ' w0 (Nat.le_refl _) (hX0.frm hF)
  have kShow := fun σ' (hF : Frm σ9 σ' NoB) => wp_Show hO ovL_I (hU0.frm hF) hm0 hm0'
  have kShowR := fun σ' (hF : Frm σ9 σ' NoB) => wp_ShowR hO (hF.fr hf9) (hX0.frm hF) hm1 hm1'
  have kVars := fun σ' (hF : Frm σ9 σ' NoB) => wp_Vars hO (hU0.frm hF) hm0
  have kVarsR := fun σ' (hF : Frm σ9 σ' NoB) => wp_VarsR hO (hF.fr hf9) (hX0.frm hF) hm1
  rw [goodM_strip hr0] at kGoodR
  rw [sameM_strip w0 u0 w1 u1 hr0 hr1] at kSameR
  rw [measM_strip w0 u0 0 hr0] at kSizeR
  rw [varsM_strip w0 u0 [] hr0] at kShowR kVarsR
  rw [showM_strip _ w0 u0 hr0] at kShowR
  rw [hu0c] at kGood kSame kSize kShow kVars
  rw [hw0c] at kGoodR kSameR kSizeR kShowR kVarsR
  rw [hu1c] at kSame
  rw [hw1c] at kSameR
  rw [wp_join, wp_ldAll hA9 4 rfl]
  simp only [asAgg_agg, asCons_cons, asInt_int, asStr_str, asSlice_slice, asNil_nil]
  have fin : ∀ σ' : AHeap, ∀ b : Bool, b = true → Wp PROG ovL (T5k0 .normal [.bool b]) σ' fun _ vs _ => ∃ v, vs = [v] ∧ v = .bool true := fun σ' b hb => by
    subst hb
    simp only [T5k0, sw_same, asCons_cons, asBool_bool, asNil_nil]
    rw [wp_ret]
    exact ⟨_, rfl, rfl⟩
  -- Good
  rw [wp_get, wp_call]
  refine WpF.mono (kGood σ9 (Frm.refl _ _)) ?_
  rintro _ σ10 ⟨rfl, hF10⟩
  rw [asBool_bool, wp_ldAll (hF10.stN hC9) 4 rfl, wp_grd]
  refine ⟨past_ok (hC9.ldAll 4 rfl), ?_⟩
  simp only [asAgg_agg, asCons_cons, asInt_int, asStr_str, asSlice_slice, asNil_nil]
  rw [wp_call]
  refine WpF.mono (kGoodR σ10 hF10) ?_
  rintro _ σ11 ⟨rfl, hF11⟩
  have hE11 := hF10.seq hF11
  rw [asBool_bool, wp_bif, if_pos (by simp), wp_ldAll (hE11.stN hA9) 4 rfl]
  simp only [asAgg_agg, asCons_cons, asInt_int, asStr_str, asSlice_slice, asNil_nil]
  rw [wp_ldAll (hE11.stN hB9) 4 rfl]
  simp only [asAgg_agg, asCons_cons, asInt_int, asStr_str, asSlice_slice, asNil_nil]
  -- Same
  rw [wp_get, wp_call]
  refine WpF.mono (kSame σ11 hE11) ?_
  rintro _ σ12 ⟨rfl, hF12⟩
  have hE12 := hE11.seq hF12
  rw [asBool_bool, wp_ldAll (hE12.stN hC9) 4 rfl, wp_grd]
  refine ⟨past_ok ((hE11.stN hC9).ldAll 4 rfl), ?_⟩
  simp only [asAgg_agg, asCons_cons, asInt_int, asStr_str, asSlice_slice, asNil_nil]
  rw [wp_ldAll (hE12.stN hD9) 4 rfl, wp_grd]
  refine ⟨past_ok ((hE11.stN hD9).ldAll 4 rfl), ?_⟩
  simp only [asAgg_agg, asCons_cons, asInt_int, asStr_str, asSlice_slice, asNil_nil]
  rw [wp_call]
  refine WpF.mono (kSameR σ12 hE12) ?_
  rintro _ σ13 ⟨rfl, hF13'⟩
  have hE13 := hE12.seq hF13'
  rw [asBool_bool, wp_bif, if_pos (by simp), wp_ldAll (hE13.stN hA9) 4 rfl]
  simp only [asAgg_agg, asCons_cons, asInt_int, asStr_str, asSlice_slice, asNil_nil]
  -- Size
  rw [wp_get, wp_call]
  refine WpF.mono (kSize σ13 hE13) ?_
  rintro _ σ14 ⟨rfl, hF14⟩
  have hE14 := hE13.seq hF14
  rw [asInt_int, wp_ldAll (hE14.stN hC9) 4 rfl, wp_grd]
  refine ⟨past_ok ((hE13.stN hC9).ldAll 4 rfl), ?_⟩
  simp only [asAgg_agg, asCons_cons, asInt_int, asStr_str, asSlice_slice, asNil_nil]
  rw [wp_call]
  refine WpF.mono (kSizeR σ14 hE14) ?_
  rintro _ σ15 ⟨rfl, hF15⟩
  have hE15 := hE14.seq hF15
  rw [asInt_int, wp_bif, if_pos (by simp), wp_ldAll (hE15.stN hA9) 4 rfl]
  simp only [asAgg_agg, asCons_cons, asInt_int, asStr_str, asSlice_slice, asNil_nil]
  -- Good again
  rw [wp_call]
  refine WpF.mono (kGood σ15 hE15) ?_
  rintro _ σ16 ⟨rfl, hF16⟩
  have hE16 := hE15.seq hF16
  rw [asBool_bool, wp_bif]
  cases hg : goodM u0 with
  | false =>
    rw [if_neg (by simp), wp_ret]
    exact fin σ16 _ rfl
  | true =>
  rw [if_pos (by simp), wp_ldAll (hE16.stN hA9) 4 rfl]
  simp only [asAgg_agg, asCons_cons, asInt_int, asStr_str, asSlice_slice, asNil_nil]
  -- Show
  rw [wp_get, wp_call]
  refine WpF.mono (kShow σ16 hE16) ?_
  rintro _ σ17 ⟨rfl, hF17⟩
  have hE17 := hE16.seq hF17
  rw [asStr_str, wp_ldAll (hE17.stN hC9) 4 rfl, wp_grd]
  refine ⟨past_ok ((hE16.stN hC9).ldAll 4 rfl), ?_⟩
  simp only [asAgg_agg, asCons_cons, asInt_int, asStr_str, asSlice_slice, asNil_nil]
  rw [wp_call]
  refine WpF.mono (kShowR σ17 hE17) ?_
  rintro _ σ18 ⟨rfl, hF18⟩
  have hE18 := hE17.seq hF18
  rw [asStr_str, wp_bif, if_pos (by simp), wp_ldAll (hE18.stN hA9) 4 rfl]
  simp only [asAgg_agg, asCons_cons, asInt_int, asStr_str, asSlice_slice, asNil_nil]
  -- Vars
  rw [wp_get, wp_call]
  refine WpF.mono (kVars σ18 hE18) ?_
  rintro _ σ19 ⟨hF19, r1, b1, cc1, rfl, hQ1, _⟩
  have hE19 := hE18.seq hF19
  rw [asSlice_slice, wp_ldAll (hE19.stN hC9) 4 rfl, wp_grd]
  refine ⟨past_ok ((hE18.stN hC9).ldAll 4 rfl), ?_⟩
  simp only [asAgg_agg, asCons_cons, asInt_int, asStr_str, asSlice_slice, asNil_nil]
  rw [wp_call]
  refine WpF.mono (kVarsR σ19 hE19) ?_
  rintro _ σ20 ⟨hF20, r2, b2, cc2, rfl, hQ2⟩
  rw [asSlice_slice, wp_call]
  refine WpF.mono (wp_ints hO (hQ1.frm hF20 fun _ h => h) hQ2 hm0) ?_
  rintro _ _ ⟨rfl, rfl⟩
  rw [asBool_bool, wp_ret]
  exact fin σ20 _ (by simp)
end Go.Pg
