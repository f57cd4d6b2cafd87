/- Layer 5: the law TyOne, whole. -/
import Derived.Test.YtoilldfibaeokaaDoorTyOne
namespace Go.Pg
open Go.Proofs Go.Lib

set_option maxHeartbeats 2000000 in
set_option maxRecDepth 100000 in
theorem tyOne_law (p0 : Option Addr) (c0 : Nat) (l0 : List (tySh 7).D) (x1 : (tySh 7).D) (vs1 : List Value) (x2 : (tySh 7).D) (vs2 : List Value) (old0 : Addr → Option Value) (rd0 : RdR (unO tabsD old0) 4 (tySh 7) p0 l0) (ok0 : (Sh.row 4 (tySh 7)).ok l0) (av1 : AV (unO tabsD old0) (tySh 7) x1 vs1) (ok1 : Sh.ok (tySh 7) x1) (av2 : AV (unO tabsD old0) (tySh 7) x2 vs2) (ok2 : Sh.ok (tySh 7) x2) :
    WpF PROG ovL 6 [.slice p0 l0.length c0, .agg vs1.toArray, .agg vs2.toArray] (startH (unO tabsD old0)) fun v _ => v = .bool true := by
  have hO := ovL_T
  have hV1 : ∀ σ : AHeap, σ.old = unO tabsD old0 → VIn L4 σ NoB 7 vs1 (cT 7 x1) := fun σ hσ => av_T hσ 6 x1 vs1 av1 ok1
  have hV2 : ∀ σ : AHeap, σ.old = unO tabsD old0 → VIn L4 σ NoB 7 vs2 (cT 7 x2) := fun σ hσ => av_T hσ 6 x2 vs2 av2 ok2
  have hR0 : ∀ σ : AHeap, σ.old = unO tabsD old0 → RowOf σ NoB 4 (VIn L4 σ NoB 7) p0 (l0.map (cT 7)) := fun σ hσ => row_T hσ 7 rd0 ok0
  have hll : l0.length = (l0.map (cT 7)).length := by simp
  rw [hll]
  generalize l0.map (cT 7) = ts at hR0
  obtain ⟨_, _, p1, c1, e1⟩ := (hV1 (startH (unO tabsD old0)) rfl).cells
  obtain ⟨_, _, p2, c2, e2⟩ := (hV2 (startH (unO tabsD old0)) rfl).cells
  generalize cT 7 x1 = t1 at hV1 e1
  generalize cT 7 x2 = t2 at hV2 e2
  rw [e1, e2]
  refine WpF.of (T6_eq _ _ _ _ _ _ _ _ _ _ _ _ _ _ _) (hO _ (by decide) (by decide) (by decide)) ?_
  rw [T6, wp_act, newC_eq]
  simp only [asPtr_ptr, asSome_some]
  rw [wp_act, newC_eq]
  simp only [asPtr_ptr, asSome_some]
  rw [wp_call]
  refine WpF.mono (awake5 old0 t1.a t2.a p1 p2 t1.args.length t2.args.length c1 c2) ?_
  rintro _ σ1 ⟨rfl, ho1, hf1, hA1, hB1⟩
  have hV11 := hV1 σ1 ho1
  have hV21 := hV2 σ1 ho1
  rw [e1] at hV11
  rw [e2] at hV21
  rw [show (startH (unO tabsD old0)).n = 0 from rfl, show ((startH (unO tabsD old0)).newBlk (tcells t1.a (.slice p1 t1.args.length c1)) 0).n = 1 from rfl]
  have hdone : ∀ σ' : AHeap, Wp PROG ovL (T6k8 ts.length p0 ⟨0, 0, some 0⟩ ⟨1, 0, some 0⟩ .normal [.bool true]) σ' fun _ vs _ => ∃ v, vs = [v] ∧ v = .bool true := fun σ' => by
    simp only [T6k8, sw_same, asCons_cons, asBool_bool, asNil_nil]
    rw [wp_bif, if_pos rfl, wp_ret]
    exact ⟨_, rfl, rfl⟩
  rw [asBool_bool, wp_bif, if_neg (by simp), wp_join, wp_bif]
  by_cases h12 : ts.length ≤ 12
  case neg =>
    rw [if_neg (by rw [decide_eq_true (by omega)]; simp), wp_ret]
    exact hdone σ1
  rw [if_pos (by rw [decide_eq_false (by omega)]; rfl), wp_ldAll hA1 4 rfl]
  simp only [asAgg_agg, asCons_cons, asInt_int, asStr_str, asSlice_slice, asNil_nil]
  rw [wp_call]
  have hsm0 := wp_small hO 7 (Nat.le_refl _) σ1 _ t1 hV11
  rw [lev7] at hsm0
  refine WpF.mono hsm0 ?_
  rintro _ σ2 ⟨rfl, hF2⟩
  rw [asBool_bool, wp_bif]
  cases hb0 : bigT 7 t1 with
  | true =>
    rw [if_neg (by simp), wp_ret]
    exact hdone σ2
  | false =>
  rw [if_pos (by simp), wp_ldAll (hF2.stN hB1) 4 rfl]
  simp only [asAgg_agg, asCons_cons, asInt_int, asStr_str, asSlice_slice, asNil_nil]
  rw [wp_call]
  have hsm1 := wp_small hO 7 (Nat.le_refl _) σ2 _ t2 (hV21.frm hF2)
  rw [lev7] at hsm1
  refine WpF.mono hsm1 ?_
  rintro _ σ3 ⟨rfl, hF3⟩
  rw [asBool_bool, wp_bif]
  cases hb1 : bigT 7 t2 with
  | true =>
    rw [if_neg (by simp), wp_ret]
    exact hdone σ3
  | false =>
  rw [if_pos (by simp)]
  have hF13 := hF2.seq hF3
  have hfit1 := bigM_fits hb0
  have hfit2 := bigM_fits hb1
  have hA3 := hF13.stN hA1
  have hB3 := hF13.stN hB1
  have hf3 := hF13.fr hf1
  obtain ⟨u1, hu1c, hU1, hs1⟩ := full_of 7 _ t1 (hV11.frm hF13) hfit1
  obtain ⟨u2, hu2c, hU2, hs2⟩ := full_of 7 _ t2 (hV21.frm hF13) hfit2
  clear hV11 hV21 hsm0 hsm1 hA1 hB1
  have hfu1 : Fits nmA 7 u1 := fits_strip 7 u1 (by rw [hs1]; exact hfit1)
  have hfu2 : Fits nmA 7 u2 := fits_strip 7 u2 (by rw [hs2]; exact hfit2)
  have kGood1 := fun σ' (hF : Frm σ3 σ' NoB) => wp_Good hO (hU1.frm hF)
  have kGood2 := fun σ' (hF : Frm σ3 σ' NoB) => wp_Good hO (hU2.frm hF)
  rw [hu1c] at kGood1
  rw [hu2c] at kGood2
  rw [wp_ldAll hA3 4 rfl]
  simp only [asAgg_agg, asCons_cons, asInt_int, asStr_str, asSlice_slice, asNil_nil]
  rw [wp_call]
  refine WpF.mono (kGood1 σ3 (Frm.refl _ _)) ?_
  rintro _ σ4 ⟨rfl, hF4⟩
  rw [asBool_bool, wp_bif]
  cases hg1 : goodM u1 with
  | false =>
    rw [if_neg (by simp), wp_ret]
    exact hdone σ4
  | true =>
  rw [if_pos (by simp), wp_ldAll (hF4.stN hB3) 4 rfl]
  simp only [asAgg_agg, asCons_cons, asInt_int, asStr_str, asSlice_slice, asNil_nil]
  rw [wp_call]
  refine WpF.mono (kGood2 σ4 hF4) ?_
  rintro _ σB ⟨rfl, hF5⟩
  have hE5 := hF4.seq hF5
  rw [asBool_bool, wp_ret]
  cases hg2 : goodM u2 with
  | false => exact hdone σB
  | true =>
  have ho1' := ok_good hg1
  have ho2' := ok_good hg2
  have hN1 : NA u1 := NA.of 7 u1 hfu1 ho1'
  have hN2 : NA u2 := NA.of 7 u2 hfu2 ho2'
  have hU1 := hU1.frm hE5
  have hU2 := hU2.frm hE5
  have hA := hE5.stN hA3
  have hB := hE5.stN hB3
  have hfB := hE5.fr hf3
  have hoB : σB.old = unO tabsD old0 := by rw [hE5.old, hF13.old, ho1]
  have hrow := hR0 σB hoB
  have hB1n : 1 < σB.n := hB.1
  clear hA3 hB3 hf3 hE5 hF4 hF5 hF13 hF2 hF3
  simp only [T6k8, sw_same, asCons_cons, asBool_bool, asNil_nil, Bool.not_true]
  rw [wp_bif, if_neg (by simp), wp_call]
  refine WpF.mono (wp_New hO σB) ?_
  rintro _ σ6 ⟨rfl, hF6, hW6⟩
  rw [asPtr_ptr]
  have hI6 : OneI σB σ6 (σB.n + 1) none 0 [] [] := ⟨hF6, Inv.nil, (fun p h => by cases h), (fun p h => by cases h), (fun w h => by cases h), Pairs.nil _, σB.n, 0, hW6, .inl ⟨rfl, rfl, rfl⟩, fun h => absurd rfl h⟩
  have hb1 : σB.n ≤ σB.n + 1 := by omega
  generalize hb1e : σB.n + 1 = b1 at hI6 hb1 ⊢
  refine wp_make hI6 hb1 hrow h12 (fun σ' i q' n' c' => ?_) fun σ7 i q cap ws S hws hI => ?_
  · simp only [T6k7, sw_re, sw_same, asCons_cons, asInt_int, asSlice_slice, asBool_bool, asNil_nil]
    rw [wp_ret]
    exact ⟨_, rfl, rfl⟩
  obtain ⟨T1, hT1⟩ := ap_tot hI.inv ho1'
  obtain ⟨T2, hT2⟩ := ap_tot hI.inv ho2'
  have kA1 := fun σ' (hF : Frm σ7 σ' NoB) => (hI.step hF).apply (hU1.frm (hI.frm.seq hF)) hg1 hN1 hT1
  have kA2 := fun σ' (hF : Frm σ7 σ' NoB) => (hI.step hF).apply (hU2.frm (hI.frm.seq hF)) hg2 hN2 hT2
  rw [hu1c] at kA1
  rw [hu2c] at kA2
  have hlb1 : b1 < σ7.n := by
    obtain ⟨r, b, h1, _⟩ := hI.heap
    exact h1.st.1
  have hf7 := hI.frm.fr hfB
  have hA7 := hI.frm.stN hA
  have hB7 := hI.frm.stN hB
  have hn7 := hI.frm.n
  simp only [T6k7, sw_same, asCons_cons, asInt_int, asSlice_slice, asBool_bool, asNil_nil]
  rw [wp_get, wp_ldAll hA7 4 rfl]
  simp only [asAgg_agg, asCons_cons, asInt_int, asStr_str, asSlice_slice, asNil_nil]
  rw [wp_ldAll hB7 4 rfl]
  simp only [asAgg_agg, asCons_cons, asInt_int, asStr_str, asSlice_slice, asNil_nil]
  rw [wp_get, wp_grd]
  refine ⟨newN_ok (Nat.le_refl _) hf7 (fun b hb => by cases hb), ?_⟩
  refine wp_newQ fun σ8 hF8 hn8 hC8 => ?_
  rw [wp_get, wp_get, wp_grd]
  have hf8 := hF8.fr hf7
  refine ⟨newN_ok (by omega) hf8 (fun b hb => by simp at hb; omega), ?_⟩
  refine wp_newQ fun σ9 hF9 hn9 hD9 => ?_
  have hC9 := hF9.stN hC8
  have hF79 := hF8.seq hF9
  rw [wp_get, wp_call]
  refine WpF.mono (kA1 σ9 hF79) ?_
  rintro _ σ10 ⟨hF10, X0, rfl, hX0s, hX0k⟩
  obtain ⟨q0, d0, hX0c⟩ := hX0k.full.cells
  rw [hX0c]
  simp only [asAgg_agg, asCons_cons, asInt_int, asStr_str, asSlice_slice, asNil_nil]
  have hF710 := hF79.seq hF10
  rw [wp_get, wp_grd]
  refine ⟨chks_one ((hF710.stN hB7).ldAll 4 rfl), ?_⟩
  have hcO : ∀ σ', Frm σ9 σ' NoB → chkO [(σ8.n, σ9.get σ8.n), (σ7.n, σ8.get σ7.n)] σ' = true := fun σ' hF => by
    unfold chkO chkO chkO
    rw [hF.get σ8.n (by omega) (fun h => h), hF.get σ7.n (by omega) (fun h => h), hF9.get σ7.n (by omega) (fun h => h), objEq_refl, objEq_refl]
    rfl
  rw [wp_get, wp_grd]
  refine ⟨hcO _ hF10, ?_⟩
  rw [wp_call]
  refine WpF.mono (kA2 σ10 hF710) ?_
  rintro _ σ11 ⟨hF11, X1, rfl, hX1s, hX1k⟩
  obtain ⟨q1, d1, hX1c⟩ := hX1k.full.cells
  rw [hX1c]
  simp only [asAgg_agg, asCons_cons, asInt_int, asStr_str, asSlice_slice, asNil_nil]
  have hF711 := hF710.seq hF11
  rw [wp_get, wp_grd]
  refine ⟨hcO _ (hF10.seq hF11), ?_⟩
  have hn10 := hF10.n
  have hn11 := hF11.n
  refine wp_stQ (hF11.stN (hF10.stN hC9)) rfl rfl fun σ12 hF12 hn12 hC12 => ?_
  refine wp_stQ (hF12.st (hF11.stN (hF10.stN hD9)) (by omega)) rfl rfl fun σ13 hF13 hn13 hD13 => ?_
  have hC13 := hF13.st hC12 (by omega)
  have hF713 : Frm σ7 σ13 NoB := (hF711.fresh hF12 fun i hi h => by omega).fresh hF13 fun i hi h => by omega
  replace hC13 : St σ13 σ7.n X0.c := by rw [hX0c]; exact hC13
  replace hD13 : St σ13 σ8.n X1.c := by rw [hX1c]; exact hD13
  have hI13 := hI.step hF713
  have hA13 := hF713.stN hA7
  have hB13 := hF713.stN hB7
  rw [wp_ldAll hA13 4 rfl]
  simp only [asAgg_agg, asCons_cons, asInt_int, asStr_str, asSlice_slice, asNil_nil]
  rw [wp_ldAll hB13 4 rfl]
  simp only [asAgg_agg, asCons_cons, asInt_int, asStr_str, asSlice_slice, asNil_nil]
  have kU := hI13.unify hb1 hU1 hU2 (fun _ => hN1) (fun _ => hN2) (cnt_fit7 hfu1) (cnt_fit7 hfu2)
  rw [hu1c, hu2c] at kU
  rw [wp_call]
  refine WpF.mono kU ?_
  rintro _ σ14 ⟨rfl, hF14, hI14, hgo⟩
  have hX0 : AFull σ14 X0 := hX0k σ14 (fun j => j < σ9.n) (((hF11.no.seq (hF12.mono fun j _ e => by omega)).seq (hF13.mono fun j _ e => by omega)).seq (hF14.mono fun j _ e => by omega)) fun j _ h => h
  have hX1 : AFull σ14 X1 := hX1k σ14 (fun j => j < σ10.n) (((hF12.mono fun j _ e => by omega).seq (hF13.mono fun j _ e => by omega)).seq (hF14.mono fun j _ e => by omega)) fun j _ h => h
  have hC14 := hF14.st hC13 (by omega)
  have hD14 := hF14.st hD13 (by omega)
  have hA14 := hF14.st hA13 (by omega)
  have hB14 := hF14.st hB13 (by omega)
  rw [show σ8.n = σ8.n from rfl, asInt_int, wp_bif]
  have fin3 : ∀ (σ' : AHeap) (b : Bool), b = true → Wp PROG ovL (T6k3 .normal [.bool b]) σ' fun _ vs _ => ∃ v, vs = [v] ∧ v = .bool true := fun σ' b hb => by
    subst hb
    simp only [T6k3, sw_same, asCons_cons, asBool_bool, asNil_nil]
    rw [wp_ret]
    exact ⟨_, rfl, rfl⟩
  by_cases he : (unifyM S u1 u2).1 = 0
  case neg =>
    rw [if_pos (by simpa using he), wp_join]
    have hS2 := unify_fail hI.inv he
    rw [hS2] at hI14
    have kB1 := fun σ' (hF : Frm σ14 σ' NoB) => (hI14.step hF).apply (hU1.frm (hI14.frm.seq hF)) hg1 hN1 hT1
    have kB2 := fun σ' (hF : Frm σ14 σ' NoB) => (hI14.step hF).apply (hU2.frm (hI14.frm.seq hF)) hg2 hN2 hT2
    rw [hu1c] at kB1
    rw [hu2c] at kB2
    rw [wp_ldAll hA14 4 rfl]
    simp only [asAgg_agg, asCons_cons, asInt_int, asStr_str, asSlice_slice, asNil_nil]
    rw [wp_get, wp_call]
    refine WpF.mono (kB1 σ14 (Frm.refl _ _)) ?_
    rintro _ σ15 ⟨hF15, y0, rfl, hy0s, hy0k⟩
    have kS0 := wp_Same hO _ σ15 y0 X0 (Nat.le_refl _) hy0k.full (hX0.frm hF15)
    rw [same_strip (t := y0) (u := X0) (by rw [hy0s, hX0s])] at kS0
    obtain ⟨py, cy, hyc⟩ := hy0k.full.cells
    rw [hyc, hX0c] at kS0
    rw [hyc]
    simp only [asAgg_agg, asCons_cons, asInt_int, asStr_str, asSlice_slice, asNil_nil]
    rw [wp_ldAll (hF15.stN hC14) 4 (by rw [hX0c]; rfl), wp_grd]
    refine ⟨past_ok (hC14.ldAll 4 (by rw [hX0c]; rfl)), ?_⟩
    rw [hX0c]
    simp only [asAgg_agg, asCons_cons, asInt_int, asStr_str, asSlice_slice, asNil_nil]
    rw [wp_call]
    refine WpF.mono kS0 ?_
    rintro _ σ16 ⟨rfl, hF16⟩
    have hE16 := hF15.seq hF16
    rw [asBool_bool, wp_bif, if_pos (by decide), wp_ldAll (hE16.stN hB14) 4 rfl]
    simp only [asAgg_agg, asCons_cons, asInt_int, asStr_str, asSlice_slice, asNil_nil]
    rw [wp_get, wp_call]
    refine WpF.mono (kB2 σ16 hE16) ?_
    rintro _ σ17 ⟨hF17, y1, rfl, hy1s, hy1k⟩
    have hE17 := hE16.seq hF17
    have kS1 := wp_Same hO _ σ17 y1 X1 (Nat.le_refl _) hy1k.full (hX1.frm hE17)
    rw [same_strip (t := y1) (u := X1) (by rw [hy1s, hX1s])] at kS1
    obtain ⟨pz, cz, hzc⟩ := hy1k.full.cells
    rw [hzc, hX1c] at kS1
    rw [hzc]
    simp only [asAgg_agg, asCons_cons, asInt_int, asStr_str, asSlice_slice, asNil_nil]
    rw [wp_ldAll (hE17.stN hD14) 4 (by rw [hX1c]; rfl), wp_grd]
    refine ⟨past_ok ((hE16.stN hD14).ldAll 4 (by rw [hX1c]; rfl)), ?_⟩
    rw [hX1c]
    simp only [asAgg_agg, asCons_cons, asInt_int, asStr_str, asSlice_slice, asNil_nil]
    rw [wp_call]
    refine WpF.mono kS1 ?_
    rintro _ σ18 ⟨rfl, hF18⟩
    rw [asBool_bool, wp_ret]
    exact fin3 σ18 _ rfl
  obtain ⟨_, _, hap⟩ := hgo he
  rw [if_neg (by simpa using he)]
  generalize (unifyM S u1 u2).2 = S' at hI14 hap
  refine wp_done hI14 hws fun σ15 i' hF15 => ?_
  have hI15 := hI14.step hF15
  have hA15 := hF15.stN hA14
  have hB15 := hF15.stN hB14
  obtain ⟨T, hT⟩ := ap_tot hI15.inv ho1'
  have hT' : ap S' u2 = some T := by rw [← hap]; exact hT
  have hNT := app_NW hI15.na CF u1 T hN1 hT
  have kC1 := fun σ' (hF : Frm σ15 σ' NoB) => (hI15.step hF).apply (hU1.frm (hI15.frm.seq hF)) hg1 hN1 hT
  have kC2 := fun σ' (hF : Frm σ15 σ' NoB) => (hI15.step hF).apply (hU2.frm (hI15.frm.seq hF)) hg2 hN2 hT'
  rw [hu1c] at kC1
  rw [hu2c] at kC2
  have fin5 : ∀ (σ' : AHeap) (b : Bool), b = true → Wp PROG ovL (T6k5 .normal [.bool b]) σ' fun _ vs _ => ∃ v, vs = [v] ∧ v = .bool true := fun σ' b hb => by
    subst hb
    simp only [T6k5, sw_same, asCons_cons, asBool_bool, asNil_nil]
    rw [wp_ret]
    exact ⟨_, rfl, rfl⟩
  simp only [T6k6, sw_same, asCons_cons, asInt_int, asBool_bool, asNil_nil]
  rw [wp_join, wp_ldAll hA15 4 rfl]
  simp only [asAgg_agg, asCons_cons, asInt_int, asStr_str, asSlice_slice, asNil_nil]
  rw [wp_get, wp_call]
  refine WpF.mono (kC1 σ15 (Frm.refl _ _)) ?_
  rintro _ σ16 ⟨hF16, y0, rfl, hy0s, hy0k⟩
  obtain ⟨py, cy, hyc⟩ := hy0k.full.cells
  rw [hyc]
  simp only [asAgg_agg, asCons_cons, asInt_int, asStr_str, asSlice_slice, asNil_nil]
  rw [wp_ldAll (hF16.stN hB15) 4 rfl, wp_grd]
  refine ⟨past_ok (hB15.ldAll 4 rfl), ?_⟩
  simp only [asAgg_agg, asCons_cons, asInt_int, asStr_str, asSlice_slice, asNil_nil]
  rw [wp_call]
  refine WpF.mono (kC2 σ16 hF16) ?_
  rintro _ σ17 ⟨hF17, y1, rfl, hy1s, hy1k⟩
  have hE17 := hF16.seq hF17
  have kS := wp_Same hO _ σ17 y0 y1 (Nat.le_refl _) (hy0k.full.frm hF17) hy1k.full
  rw [same_strip (t := y0) (u := y1) (by rw [hy0s, hy1s])] at kS
  obtain ⟨pz, cz, hzc⟩ := hy1k.full.cells
  rw [hyc, hzc] at kS
  rw [hzc]
  simp only [asAgg_agg, asCons_cons, asInt_int, asStr_str, asSlice_slice, asNil_nil]
  rw [wp_call]
  refine WpF.mono kS ?_
  rintro _ σ18 ⟨rfl, hF18⟩
  have hE18 := hE17.seq hF18
  rw [asBool_bool, wp_bif, if_pos (by decide), wp_ldAll (hE18.stN hA15) 4 rfl]
  simp only [asAgg_agg, asCons_cons, asInt_int, asStr_str, asSlice_slice, asNil_nil]
  rw [wp_call]
  refine WpF.mono (kC1 σ18 hE18) ?_
  rintro _ σ19 ⟨hF19, y2, rfl, hy2s, hy2k⟩
  have hE19 := hE18.seq hF19
  have kG := wp_Good hO hy2k.full
  obtain ⟨pg, cg, hgc⟩ := hy2k.full.cells
  rw [hgc] at kG ⊢
  simp only [asAgg_agg, asCons_cons, asInt_int, asStr_str, asSlice_slice, asNil_nil]
  rw [wp_call]
  refine WpF.mono kG ?_
  rintro _ σ20 ⟨rfl, hF20⟩
  have hE20 := hE19.seq hF20
  rw [asBool_bool, wp_bif]
  cases hgy : goodM y2 with
  | false =>
    rw [if_neg (by simp), wp_ret]
    exact fin5 σ20 _ rfl
  | true =>
  rw [if_pos (by simp), wp_ldAll (hE20.stN hA15) 4 rfl]
  simp only [asAgg_agg, asCons_cons, asInt_int, asStr_str, asSlice_slice, asNil_nil]
  rw [wp_get, wp_call]
  refine WpF.mono (kC1 σ20 hE20) ?_
  rintro _ σ21 ⟨hF21, y3, rfl, hy3s, hy3k⟩
  have hE21 := hE20.seq hF21
  have hgy3 : goodM y3 = true := by rw [goodM_strip (t := y3) (u := y2) (by rw [hy3s, hy2s])]; exact hgy
  have hT3 : ap S' y3 = some T := ap_idem hI15.inv _ T (Nat.le_refl _) u1 y3 ho1' (ok_good hgy3) hT hy3s
  have kD := (hI15.step hE21).apply hy3k.full hgy3 (by unfold NA; rw [hy3s]; exact hNT) hT3
  obtain ⟨ph, ch, hhc⟩ := hy3k.full.cells
  rw [hhc] at kD ⊢
  simp only [asAgg_agg, asCons_cons, asInt_int, asStr_str, asSlice_slice, asNil_nil]
  rw [wp_get, wp_call]
  refine WpF.mono kD ?_
  rintro _ σ22 ⟨hF22, y4, rfl, hy4s, hy4k⟩
  have hE22 := hE21.seq hF22
  obtain ⟨pi, ci, hic⟩ := hy4k.full.cells
  rw [hic]
  simp only [asAgg_agg, asCons_cons, asInt_int, asStr_str, asSlice_slice, asNil_nil]
  rw [wp_ldAll (hE22.stN hA15) 4 rfl, wp_grd]
  refine ⟨past_ok2 ((hE21.stN hA15).ldAll 4 rfl) ((hE20.stN hA15).ldAll 4 rfl), ?_⟩
  simp only [asAgg_agg, asCons_cons, asInt_int, asStr_str, asSlice_slice, asNil_nil]
  rw [wp_call]
  refine WpF.mono (kC1 σ22 hE22) ?_
  rintro _ σ23 ⟨hF23, y5, rfl, hy5s, hy5k⟩
  have kS5 := wp_Same hO _ σ23 y4 y5 (Nat.le_refl _) (hy4k.full.frm hF23) hy5k.full
  rw [same_strip (t := y4) (u := y5) (by rw [hy4s, hy5s])] at kS5
  obtain ⟨pj, cj, hjc⟩ := hy5k.full.cells
  rw [hic, hjc] at kS5
  rw [hjc]
  simp only [asAgg_agg, asCons_cons, asInt_int, asStr_str, asSlice_slice, asNil_nil]
  rw [wp_call]
  refine WpF.mono kS5 ?_
  rintro _ σ24 ⟨rfl, hF24⟩
  rw [asBool_bool, wp_ret]
  exact fin5 σ24 _ rfl
end Go.Pg
