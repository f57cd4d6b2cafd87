/- Layer 5: the law TyOrder. -/
import Derived.Test.YtoilldfibaeokaaDoorUniD
namespace Go.Pg
open Go.Proofs Go.Lib

theorem past_ok2 {h : Act} {v : Value} {σ τ σ' τ' : AHeap} (e : h σ = some (v, τ)) (e' : h σ' = some (v, τ')) : past h v [σ, σ'] = true := by
  simp [past, chkAt, e, e', eqv_same]
theorem lev6 : lev 6 = 32 := rfl
/-- Two were made one. -/
theorem unify_zero {S : SubL} {x y : AT} (hS : Inv S) (hg : (goodM x && goodM y) = true) (h : (unifyM S x y).1 = 0) : oneM UF S x y = some (0, (unifyM S x y).2) ∧ allSmall UF (unifyM S x y).2 (unifyM S x y).2 = some true := by
  unfold unifyM at h ⊢
  rw [hg] at h ⊢
  simp only [cond_true] at h ⊢
  rw [Bool.and_eq_true] at hg
  obtain ⟨e, S', h1, h2, _⟩ := one_uf hS (ok_good hg.1) (ok_good hg.2)
  rw [h1] at h ⊢
  simp only at h ⊢
  by_cases he : e = 0
  · subst he
    simp only [decide_true, cond_true] at h ⊢
    obtain ⟨w, hw⟩ := allSmall_uf h2
    rw [hw] at h ⊢
    cases w with
    | true => exact ⟨rfl, hw⟩
    | false => simp at h
  · rw [decide_eq_false he] at h
    simp only [cond_false] at h
    exact absurd h he

set_option maxHeartbeats 1000000 in
set_option maxRecDepth 100000 in
theorem tyOrder_law (x0 : (tySh 7).D) (vs0 : List Value) (x1 : (tySh 7).D) (vs1 : List Value) (old0 : Addr → Option Value) (av0 : AV (unO tabsD old0) (tySh 7) x0 vs0) (ok0 : Sh.ok (tySh 7) x0) (av1 : AV (unO tabsD old0) (tySh 7) x1 vs1) (ok1 : Sh.ok (tySh 7) x1) :
    WpF PROG ovL 4 [.agg vs0.toArray, .agg vs1.toArray] (startH (unO tabsD old0)) fun v _ => v = .bool true := by
  have hO := ovL_T
  have hU : ovL 12 = some unifyG := rfl
  have hV0 : ∀ σ : AHeap, σ.old = unO tabsD old0 → VIn L4 σ NoB 6 vs0 (cT 7 x0) := fun σ hσ => (av_T hσ 6 x0 vs0 av0 ok0).low (by decide)
  have hV1 : ∀ σ : AHeap, σ.old = unO tabsD old0 → VIn L4 σ NoB 6 vs1 (cT 7 x1) := fun σ hσ => (av_T hσ 6 x1 vs1 av1 ok1).low (by decide)
  obtain ⟨_, _, p0, c0, e0⟩ := (hV0 (startH (unO tabsD old0)) rfl).cells
  obtain ⟨_, _, p1, c1, e1⟩ := (hV1 (startH (unO tabsD old0)) rfl).cells
  generalize cT 7 x0 = t0 at hV0 e0
  generalize cT 7 x1 = t1 at hV1 e1
  rw [e0, e1]
  refine WpF.of (T4_eq _ _ _ _ _ _ _ _ _ _ _ _) (hO _ (by decide) (by decide) (by decide)) ?_
  rw [T4, wp_act, newC_eq]
  simp only [asPtr_ptr, asSome_some]
  rw [wp_act, newC_eq]
  simp only [asPtr_ptr, asSome_some]
  rw [wp_call]
  refine WpF.mono (awake5 old0 t0.a t1.a p0 p1 t0.args.length t1.args.length c0 c1) ?_
  rintro _ σ1 ⟨rfl, ho1, hf1, hA1, hB1⟩
  have hV01 := hV0 σ1 ho1
  have hV11 := hV1 σ1 ho1
  rw [e0] at hV01
  rw [e1] at hV11
  rw [show (startH (unO tabsD old0)).n = 0 from rfl, show ((startH (unO tabsD old0)).newBlk (tcells t0.a (.slice p0 t0.args.length c0)) 0).n = 1 from rfl]
  rw [asBool_bool, wp_bif, if_neg (by simp), wp_join, wp_ldAll hA1 4 rfl]
  simp only [asAgg_agg, asCons_cons, asInt_int, asStr_str, asSlice_slice, asNil_nil]
  rw [wp_call]
  have hsm0 := wp_small hO 6 (by decide) σ1 _ t0 hV01
  rw [lev6] at hsm0
  refine WpF.mono hsm0 ?_
  rintro _ σ2 ⟨rfl, hF2⟩
  have hdone : ∀ σ' : AHeap, Wp PROG ovL (T4k2 ⟨0, 0, some 0⟩ ⟨1, 0, some 0⟩ .normal [.bool true]) σ' fun _ vs _ => ∃ v, vs = [v] ∧ v = .bool true := fun σ' => by
    simp only [T4k2, sw_same, asCons_cons, asBool_bool, asNil_nil]
    rw [wp_bif, if_pos rfl, wp_ret]
    exact ⟨_, rfl, rfl⟩
  rw [asBool_bool, wp_bif]
  cases hb0 : bigT 6 t0 with
  | true =>
    rw [if_neg (by simp), wp_ret]
    exact hdone σ2
  | false =>
  rw [if_pos (by simp), wp_ldAll (hF2.stN hB1) 4 rfl]
  simp only [asAgg_agg, asCons_cons, asInt_int, asStr_str, asSlice_slice, asNil_nil]
  rw [wp_call]
  have hsm1 := wp_small hO 6 (by decide) σ2 _ t1 (hV11.frm hF2)
  rw [lev6] at hsm1
  refine WpF.mono hsm1 ?_
  rintro _ σ3 ⟨rfl, hF3⟩
  rw [asBool_bool, wp_bif]
  cases hb1 : bigT 6 t1 with
  | true =>
    rw [if_neg (by simp), wp_ret]
    exact hdone σ3
  | false =>
  rw [if_pos (by simp)]
  have hF13 := hF2.seq hF3
  have hfit0 := bigM_fits hb0
  have hfit1 := bigM_fits hb1
  have hA3 := hF13.stN hA1
  have hB3 := hF13.stN hB1
  obtain ⟨u0, hu0c, hU0, hs0⟩ := full_of 6 _ t0 (hV01.frm hF13) hfit0
  obtain ⟨u1, hu1c, hU1, hs1⟩ := full_of 6 _ t1 (hV11.frm hF13) hfit1
  clear hV01 hV11 hsm0 hsm1 hA1 hB1
  have hfu0 : Fits nmA 6 u0 := fits_strip 6 u0 (by rw [hs0]; exact hfit0)
  have hfu1 : Fits nmA 6 u1 := fits_strip 6 u1 (by rw [hs1]; exact hfit1)
  have kGood0 := fun σ' (hF : Frm σ3 σ' NoB) => wp_Good hO (hU0.frm hF)
  have kGood1 := fun σ' (hF : Frm σ3 σ' NoB) => wp_Good hO (hU1.frm hF)
  rw [hu0c] at kGood0
  rw [hu1c] at kGood1
  rw [wp_ldAll hA3 4 rfl]
  simp only [asAgg_agg, asCons_cons, asInt_int, asStr_str, asSlice_slice, asNil_nil]
  rw [wp_call]
  refine WpF.mono (kGood0 σ3 (Frm.refl _ _)) ?_
  rintro _ σ4 ⟨rfl, hF4⟩
  rw [asBool_bool, wp_bif]
  cases hg0 : goodM u0 with
  | false =>
    rw [if_neg (by simp), wp_ret]
    exact hdone σ4
  | true =>
  rw [if_pos (by simp), wp_ldAll (hF4.stN hB3) 4 rfl]
  simp only [asAgg_agg, asCons_cons, asInt_int, asStr_str, asSlice_slice, asNil_nil]
  rw [wp_call]
  refine WpF.mono (kGood1 σ4 hF4) ?_
  rintro _ σ5 ⟨rfl, hF5⟩
  have hE5 := hF4.seq hF5
  rw [asBool_bool, wp_ret]
  cases hg1 : goodM u1 with
  | false => exact hdone σ5
  | true =>
  have ho0 := ok_good hg0
  have ho1' := ok_good hg1
  have hN0 : NA u0 := NA.of 6 u0 hfu0 ho0
  have hN1 : NA u1 := NA.of 6 u1 hfu1 ho1'
  simp only [T4k2, sw_same, asCons_cons, asBool_bool, asNil_nil]
  rw [wp_bif, if_neg (by simp), wp_call]
  -- two that tell nothing
  refine WpF.mono (wp_New hO σ5) ?_
  rintro _ σ6 ⟨rfl, hF6, hW1⟩
  have n6 := hW1.st.1
  rw [asPtr_ptr, wp_call]
  refine WpF.mono (wp_New hO σ6) ?_
  rintro _ σ7 ⟨rfl, hF7, hW2⟩
  have hE7 := hE5.seq (hF6.seq hF7)
  have hW1 := hW1.frm hF7
  have hn5 := hE5.n
  have hA0 : 1 < σ3.n := hB3.1
  have hb12 : σ6.n + 1 ≠ σ5.n + 1 := by omega
  rw [asPtr_ptr, wp_ldAll (hE7.stN hA3) 4 rfl]
  simp only [asAgg_agg, asCons_cons, asInt_int, asStr_str, asSlice_slice, asNil_nil]
  rw [wp_ldAll (hE7.stN hB3) 4 rfl]
  simp only [asAgg_agg, asCons_cons, asInt_int, asStr_str, asSlice_slice, asNil_nil]
  -- made one
  have kU1 := wp_Unify hU hW1 Inv.nil (hU0.frm hE7) (hU1.frm hE7) (by have := ho0.le; omega) (by have := ho1'.le; omega)
  rw [hu0c, hu1c] at kU1
  rw [wp_get, wp_call]
  refine WpF.mono kU1 ?_
  rintro _ σ8 ⟨rfl, hF8, r1, hW1', _⟩
  have hW2' := hW2.other hF8 hW1.st (by simp) hb12
  have hE8 : Frm σ3 σ8 NoB := hE7.fresh hF8 fun i hi h => by omega
  rw [asInt_int, wp_ldAll (hE8.stN hB3) 4 rfl, wp_grd]
  refine ⟨past_ok ((hE7.stN hB3).ldAll 4 rfl), ?_⟩
  simp only [asAgg_agg, asCons_cons, asInt_int, asStr_str, asSlice_slice, asNil_nil]
  rw [wp_ldAll (hE8.stN hA3) 4 rfl, wp_grd]
  refine ⟨past_ok ((hE7.stN hA3).ldAll 4 rfl), ?_⟩
  simp only [asAgg_agg, asCons_cons, asInt_int, asStr_str, asSlice_slice, asNil_nil]
  have kU2 := wp_Unify hU hW2' Inv.nil (hU1.frm hE8) (hU0.frm hE8) (by have := ho1'.le; omega) (by have := ho0.le; omega)
  rw [hu0c, hu1c] at kU2
  rw [wp_call]
  refine WpF.mono kU2 ?_
  rintro _ σ9 ⟨rfl, hF9, r2, hW2', _⟩
  have hW1' := hW1'.other hF9 (hW2.other hF8 hW1.st (by simp) hb12).st (by simp) (fun e => hb12 e.symm)
  have hE9 : Frm σ3 σ9 NoB := hE8.fresh hF9 fun i hi h => by
    have := hF6.n
    omega
  rw [← unify_sym (S := []) (x := u0) (y := u1) Inv.nil] at hW2' ⊢
  rw [asInt_int, wp_bif, if_neg (by simp), wp_join, wp_bif]
  have fin : ∀ (σ' : AHeap) (b : Bool), b = true → Wp PROG ovL (T4k1 .normal [.bool b]) σ' fun _ vs _ => ∃ v, vs = [v] ∧ v = .bool true := fun σ' b hb => by
    subst hb
    simp only [T4k1, sw_same, asCons_cons, asBool_bool, asNil_nil]
    rw [wp_ret]
    exact ⟨_, rfl, rfl⟩
  by_cases he : (unifyM [] u0 u1).1 = 0
  case neg =>
    rw [if_neg (by simpa using he), wp_ret]
    exact fin σ9 _ rfl
  obtain ⟨hone, hall⟩ := unify_zero Inv.nil (by rw [hg0, hg1]; rfl) he
  have hI : Inv (unifyM [] u0 u1).2 := unifyM_inv Inv.nil
  rw [if_pos (by simpa using he), wp_ldAll (hE9.stN hA3) 4 rfl]
  simp only [asAgg_agg, asCons_cons, asInt_int, asStr_str, asSlice_slice, asNil_nil]
  have hNS := oneM_pres (P := NA) (fun t ht u hu => ht.arg hu) NA.varT UF [] u0 u1 0 _ (fun p hp => by cases hp) hN0 hN1 hone
  generalize (unifyM [] u0 u1).2 = S' at hW1' hW2' hone hall hI hNS
  obtain ⟨m, hm⟩ := hI.asz ho0
  obtain ⟨T, hT⟩ := app_of_asz _ _ _ hm
  have hmb := asz_bnd (small_all hI hall) _ _ _ ho0 hm
  have hcT := app_cnt _ _ _ _ hm hT
  have hNT := app_NW hNS _ _ _ hN0 hT
  have hok : ∀ u : AT, strip u = T → (varsM u []).length ≤ 1000000 ∧ (showM (nmOf 0 (varsM u [])) u).length ≤ 1000000000 := fun u hu => by
    refine cnt_ok (by unfold NA; rw [hu]; exact hNT) ?_
    rw [cnt_strip, hu, hcT]
    have := ho0.le
    omega
  have kA1 := wp_Apply hO hW1'.sub (hU0.frm hE9) hg0 hT hNT
  rw [hu0c] at kA1
  rw [wp_get, wp_call]
  refine WpF.mono kA1 ?_
  rintro _ σ10 ⟨hF10, a, rfl, hAa, hsa⟩
  have hE10 := hE9.seq hF10
  have kS1 := wp_Show hO ovL_I hAa (hok a hsa).1 (hok a hsa).2
  obtain ⟨pa, ca, hac⟩ := hAa.cells
  rw [hac] at kS1 ⊢
  simp only [asAgg_agg, asCons_cons, asInt_int, asStr_str, asSlice_slice, asNil_nil]
  rw [wp_get, wp_call]
  refine WpF.mono kS1 ?_
  rintro _ σ11 ⟨rfl, hF11⟩
  have hE11 := hE10.seq hF11
  rw [asStr_str, wp_ldAll (hE11.stN hA3) 4 rfl, wp_grd]
  refine ⟨past_ok2 ((hE10.stN hA3).ldAll 4 rfl) ((hE9.stN hA3).ldAll 4 rfl), ?_⟩
  simp only [asAgg_agg, asCons_cons, asInt_int, asStr_str, asSlice_slice, asNil_nil]
  have kA2 := wp_Apply hO (hW2'.frm (hF10.seq hF11)).sub (hU0.frm hE11) hg0 hT hNT
  rw [hu0c] at kA2
  rw [wp_call]
  refine WpF.mono kA2 ?_
  rintro _ σ12 ⟨hF12, c, rfl, hAc, hsc⟩
  have kS2 := wp_Show hO ovL_I hAc (hok c hsc).1 (hok c hsc).2
  have hac' : strip c = strip a := by rw [hsc, hsa]
  rw [varsM_strip c a [] hac', showM_strip _ c a hac'] at kS2
  obtain ⟨pc, cc, hcc⟩ := hAc.cells
  rw [hcc] at kS2 ⊢
  simp only [asAgg_agg, asCons_cons, asInt_int, asStr_str, asSlice_slice, asNil_nil]
  rw [wp_call]
  refine WpF.mono kS2 ?_
  rintro _ σ13 ⟨rfl, hF13⟩
  rw [asStr_str, wp_ret]
  exact fin σ13 _ (by simp)
end Go.Pg
