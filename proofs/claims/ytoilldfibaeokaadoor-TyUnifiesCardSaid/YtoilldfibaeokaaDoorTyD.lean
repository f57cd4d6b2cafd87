/- Layer 5: one. -/
import Derived.Test.YtoilldfibaeokaaDoorTyC
namespace Go.Pg
open Go.Proofs
section
variable {σ : AHeap} {b r q : Nat} {nx : Int} {S : SubL} {ov : Ov} {l : List Int}

theorem varT_full (σ : AHeap) (n : Int) : AFull σ (varT n) := fun k => by
  cases k with
  | zero => exact ⟨by simp [varT, Tr.args], none, 0, rfl⟩
  | succ k => exact ⟨by simp [varT, Tr.args], none, 0, rfl, fun i hi => by simp [varT, Tr.args] at hi⟩

theorem SubW.ne (h : SubW σ b r nx S) : b ≠ r := fun e => by
  have h1 := h.st.2
  have h2 := h.map
  rw [e, h2] at h1
  cases h1
theorem SubW.set {σ' : AHeap} {v : Int} {t : AT} (h : SubW σ b r nx S) (ht : AFull σ t) (f : Frm σ σ' (· = r)) (hn : σ'.n = σ.n) (hg : σ'.get r = some (.map (esOf (setS S v t)))) : SubW σ' b r nx (setS S v t) :=
  SubW.of (f.st h.st h.ne) (by rw [hn]; exact h.lt) hg fun p hp => (setS_mem hp).elim (fun e => by subst e; exact ht.stepM f h.isMap) fun e => (h.full p e).stepM f h.isMap

theorem wp_one (hO : OvT ov) : ∀ (k : Nat) (σ : AHeap) (S : SubL) (x y : AT) (e : Int) (S' : SubL), SubW σ b r nx S → AFull σ x → AFull σ y → oneM k S x y = some (e, S') →
    WpF PROG ov 34 [.pointer (some ⟨b, 0, some 0⟩), .agg x.c.toArray, .agg y.c.toArray] σ fun v σ' => v = .int .i64 e ∧ Frm σ σ' (· = r) ∧ SubW σ' b r nx S' := by
  intro k
  induction k with
  | zero => intro σ S x y e S' _ _ _ h; cases h
  | succ k ih =>
    intro σ S x y e S' hs hx hy hm
    have hbl := hs.st.1
    have hrl := hs.lt
    have hsmx := fun σ' (hF : Frm σ σ' NoB) w (h : smallM k S x = some w) => wp_tsmall hO (hs.frm hF).sub (hx.frm hF) h
    have hsmy := fun σ' (hF : Frm σ σ' NoB) w (h : smallM k S y = some w) => wp_tsmall hO (hs.frm hF).sub (hy.frm hF) h
    have hhdx := fun σ' (hF : Frm σ σ' NoB) w (h : headM k S x = some w) => wp_head hO (hs.frm hF).sub (hx.frm hF) h
    have hhdy := fun σ' (hF : Frm σ σ' NoB) w (h : headM k S y = some w) => wp_head hO (hs.frm hF).sub (hy.frm hF) h
    have hfx := fun w (h : headM k S x = some w) => headM_full hs.full hx h
    have hfy := fun w (h : headM k S y = some w) => headM_full hs.full hy h
    obtain ⟨xp, xc, hxc⟩ := hx.cells
    obtain ⟨yp, yc, hyc⟩ := hy.cells
    rw [hxc] at hsmx hhdx
    rw [hyc] at hsmy hhdy
    rw [hxc, hyc]
    refine WpF.of (T34_eq _ _ _ _ _ _ _ _ _ _ _ _ _) (hO _ (by decide) (by decide) (by decide)) ?_
    rw [T34]
    refine wp_newQ fun σ1 hF1 hn1 hS1 => ?_
    refine wp_newQ fun σ2 hF2 hn2 hS2 => ?_
    have hF02 := hF1.seq hF2
    have hS1 := hF2.stN hS1
    rw [wp_join, wp_ldAll hS1 4 rfl]
    simp only [asAgg_agg, asCons_cons, asInt_int, asStr_str, asSlice_slice, asNil_nil]
    unfold oneM at hm
    cases hwx : smallM k S x with
    | none => rw [hwx] at hm; cases hm
    | some wx =>
    rw [hwx] at hm
    rw [wp_call]
    refine WpF.mono (hsmx σ2 hF02 wx hwx) ?_
    rintro _ σ3 ⟨rfl, hF3⟩
    have hF03 := hF02.seq hF3
    have hS1 := hF3.stN hS1
    have hS2 := hF3.stN hS2
    rw [asBool_bool, wp_bif]
    cases wx with
    | false =>
      cases hm
      rw [if_neg (by simp), wp_ret]
      simp only [T34k6, sw_same, asCons_cons, asBool_bool, asNil_nil]
      rw [wp_bif, if_pos rfl, wp_ret]
      exact ⟨_, rfl, rfl, hF03.no, hs.frm hF03⟩
    | true =>
    rw [if_pos (by simp), wp_ldAll hS2 4 rfl]
    simp only [asAgg_agg, asCons_cons, asInt_int, asStr_str, asSlice_slice, asNil_nil]
    simp only at hm
    cases hwy : smallM k S y with
    | none => rw [hwy] at hm; cases hm
    | some wy =>
    rw [hwy] at hm
    rw [wp_call]
    refine WpF.mono (hsmy σ3 hF03 wy hwy) ?_
    rintro _ σ4 ⟨rfl, hF4⟩
    have hF04 := hF03.seq hF4
    have hS1 := hF4.stN hS1
    have hS2 := hF4.stN hS2
    rw [asBool_bool, wp_ret]
    cases wy with
    | false =>
      cases hm
      simp only [T34k6, sw_same, asCons_cons, asBool_bool, asNil_nil]
      rw [wp_bif, if_pos (by simp), wp_ret]
      exact ⟨_, rfl, rfl, hF04.no, hs.frm hF04⟩
    | true =>
    simp only at hm
    simp only [T34k6, sw_same, asCons_cons, asBool_bool, asNil_nil]
    rw [wp_bif, if_neg (by simp), wp_ldAll hS1 4 rfl]
    simp only [asAgg_agg, asCons_cons, asInt_int, asStr_str, asSlice_slice, asNil_nil]
    rw [wp_get]
    cases hhx : headM k S x with
    | none => rw [hhx] at hm; cases hm
    | some X =>
    cases hhy : headM k S y with
    | none => rw [hhx, hhy] at hm; cases hm
    | some Y =>
    rw [hhx, hhy] at hm
    simp only at hm
    have hX := hfx X hhx
    have hY := hfy Y hhy
    have hbX := fun σ' (hF : Frm σ σ' NoB) v e S' => wp_bind (k := k) (v := v) (e := e) (S' := S') hO (hs.frm hF) (hX.frm hF)
    have hbY := fun σ' (hF : Frm σ σ' NoB) v e S' => wp_bind (k := k) (v := v) (e := e) (S' := S') hO (hs.frm hF) (hY.frm hF)
    have hxl := hX.len
    obtain ⟨Xp, Xc, hXc, hXr⟩ := hX.row
    obtain ⟨Yp, Yc, hYc, hYr⟩ := hY.row
    rw [hXc] at hbX
    rw [hYc] at hbY
    rw [wp_call]
    refine WpF.mono (hhdx σ4 hF04 X hhx) ?_
    rintro _ σ5 ⟨rfl, hF5⟩
    rw [hXc]
    have hF05 := hF04.seq hF5
    have hS1' := hF5.stN hS1
    have hS2' := hF5.stN hS2
    simp only [asAgg_agg, asCons_cons, asInt_int, asStr_str, asSlice_slice, asNil_nil]
    rw [wp_ldAll hS2' 4 rfl, wp_grd]
    refine ⟨past_ok (hS2.ldAll 4 rfl), ?_⟩
    simp only [asAgg_agg, asCons_cons, asInt_int, asStr_str, asSlice_slice, asNil_nil]
    rw [wp_call]
    refine WpF.mono (hhdy σ5 hF05 Y hhy) ?_
    rintro _ σ6 ⟨rfl, hF6⟩
    rw [hYc]
    have hF06 := hF05.seq hF6
    have hS1'' := hF6.stN hS1'
    have hS2'' := hF6.stN hS2'
    simp only [asAgg_agg, asCons_cons, asInt_int, asStr_str, asSlice_slice, asNil_nil]
    have h6n : σ2.n ≤ σ6.n := by have := hF3.n; have := hF4.n; have := hF5.n; have := hF6.n; omega
    refine wp_stQ hS1'' rfl rfl fun σ7 hF7 hn7 hA => ?_
    have hF07 : Frm σ σ7 NoB := hF06.fresh hF7 fun j hj h => by omega
    refine wp_stQ (hF7.st hS2'' (by omega)) rfl rfl fun σ8 hF8 hn8 hB => ?_
    have hF08 : Frm σ σ8 NoB := hF07.fresh hF8 fun j hj h => by omega
    have hA := hF8.st hA (by omega)
    have hs8 := hs.frm hF08
    have retE : ∀ (σ' : AHeap) (e : Int), Frm σ σ' (· = r) → SubW σ' b r nx S' → Wp PROG ov (T34k5 ⟨σ.n, 0, some 0⟩ ⟨σ1.n, 0, some 0⟩ (some ⟨b, 0, some 0⟩) .ret [.int .i64 e]) σ' fun _ vs σ' => ∃ v, vs = [v] ∧ v = .int .i64 e ∧ Frm σ σ' (· = r) ∧ SubW σ' b r nx S' := fun σ' e hF hs' => by
      simp only [T34k5, sw_same, asCons_cons, asInt_int, asNil_nil]
      rw [wp_ret]
      exact ⟨_, rfl, rfl, hF, hs'⟩
    rw [wp_join, wp_join, wp_ldF hA rfl, asInt_int, wp_bif]
    by_cases hX7 : X.k = 7
    · rw [if_pos hX7] at hm
      rw [if_pos (by simpa using hX7), wp_ldF hB rfl, asInt_int, wp_ret]
      by_cases hY7 : Y.k = 7
      · rw [if_pos hY7] at hm
        simp only [T34k2, sw_same, asCons_cons, asBool_bool, asNil_nil]
        rw [wp_bif, if_pos (by simpa using hY7), wp_ldF hA rfl, asInt_int, wp_ldF hB rfl, asInt_int, wp_join, wp_bif]
        by_cases hv : X.v = Y.v
        · rw [if_pos hv] at hm
          cases hm
          rw [if_neg (by simpa using hv), wp_ret]
          simp only [T34k0, sw_same, asNil_nil]
          rw [wp_ret]
          exact retE σ8 0 hF08.no hs8
        · rw [if_neg hv] at hm
          cases hm
          rw [if_pos (by simpa using hv), asSome_some, wp_ldF hs8.st rfl, asMap_map, wp_ldF hA rfl, asInt_int, wp_ldF hB rfl, asInt_int, wp_ldF hA rfl, asInt_int, wp_ldF hB rfl, asInt_int]
          refine wp_mupR hs8.lt hs8.map (set_esOf _ (varT (minV X.v Y.v)) _) fun σ9 hF9 hn9 hg9 => ?_
          rw [wp_ret]
          simp only [T34k0, sw_same, asNil_nil]
          rw [wp_ret]
          exact retE σ9 0 (hF08.no.seq hF9) (hs8.set (varT_full _ _) hF9 hn9 hg9)
      · rw [if_neg hY7] at hm
        simp only [T34k2, sw_same, asCons_cons, asBool_bool, asNil_nil]
        rw [wp_bif, if_neg (by simpa using hY7), wp_ldF hA rfl, asInt_int, wp_bif, if_pos (by simpa using hX7), wp_ldF hA rfl, asInt_int, wp_ldAll hB 4 rfl]
        simp only [asAgg_agg, asCons_cons, asInt_int, asStr_str, asSlice_slice, asNil_nil]
        rw [wp_call]
        refine WpF.mono (hbY σ8 hF08 X.v e S' hm) ?_
        rintro _ σ9 ⟨rfl, hF9, hs9⟩
        rw [asInt_int, wp_ret]
        exact retE σ9 e (hF08.no.seq hF9) hs9
    · rw [if_neg hX7] at hm
      rw [if_neg (by simpa using hX7), wp_ret]
      simp only [T34k2, sw_same, asCons_cons, asBool_bool, asNil_nil]
      rw [wp_bif, if_neg (by simp), wp_ldF hA rfl, asInt_int, wp_bif, if_neg (by simpa using hX7), wp_ldF hB rfl, asInt_int, wp_bif]
      by_cases hY7 : Y.k = 7
      · rw [if_pos hY7] at hm
        rw [if_pos (by simpa using hY7), wp_ldF hB rfl, asInt_int, wp_ldAll hA 4 rfl]
        simp only [asAgg_agg, asCons_cons, asInt_int, asStr_str, asSlice_slice, asNil_nil]
        rw [wp_call]
        refine WpF.mono (hbX σ8 hF08 Y.v e S' hm) ?_
        rintro _ σ9 ⟨rfl, hF9, hs9⟩
        rw [asInt_int, wp_ret]
        exact retE σ9 e (hF08.no.seq hF9) hs9
      rw [if_neg hY7] at hm
      rw [if_neg (by simpa using hY7), wp_join, wp_ldF hA rfl, asInt_int, wp_ldF hB rfl, asInt_int, wp_bif]
      by_cases hkk : X.k = Y.k
      case neg =>
        rw [if_neg hkk] at hm
        cases hm
        rw [if_neg (by simpa using hkk), wp_ret]
        simp only [T34k1, sw_same, asCons_cons, asBool_bool, asNil_nil]
        rw [wp_bif, if_pos rfl, wp_ret]
        exact retE σ8 5 hF08.no hs8
      rw [if_pos hkk] at hm
      rw [if_pos (by simpa using hkk), wp_ldF hA rfl, asStr_str, wp_ldF hB rfl, asStr_str, wp_ret]
      simp only [T34k1, sw_same, asCons_cons, asBool_bool, asNil_nil]
      rw [wp_bif]
      by_cases hnm : X.nm.toList = Y.nm.toList
      case neg =>
        rw [if_neg hnm] at hm
        cases hm
        rw [if_pos (by simpa using hnm), wp_ret]
        exact retE σ8 5 hF08.no hs8
      rw [if_pos hnm] at hm
      rw [if_neg (by simpa using hnm), wp_ret]
      simp only [T34k5, sw_nr, sw_same, asCons_cons, asInt_int, asNil_nil]
      rw [wp_ldF hA rfl, asSlice_slice]
      refine Wp.count X.args.length (fun j st σ' => ∃ (c : Int) (Sj : SubL), st = [.int .i64 ((j : Nat) : Int), .int .i64 c] ∧ Frm σ σ' (· = r) ∧ SubW σ' b r nx Sj ∧ σ.n + 2 ≤ σ'.n ∧ St σ' σ.n (tcells X.a.1 (.slice Xp X.args.length Xc)) ∧ St σ' σ1.n (tcells Y.a.1 (.slice Yp Y.args.length Yc)) ∧ pairsM (oneM k) Sj (X.args.drop j) (Y.args.drop j) = some (e, S')) ⟨0, S, rfl, hF08.no, hs8, by omega, hA, hB, hm⟩ ?_ ?_
      · rintro j st σ9 hj ⟨c, Sj, rfl, hF9, hs9, hn9, hA, hB, hp⟩
        have ej : wi64 ((j : Int) + 1) = ((j + 1 : Nat) : Int) := by rw [wi64_in (by omega)]; omega
        simp only [T34b0, asCons_cons, asInt_int, asNil_nil]
        rw [wp_bif, if_pos (by simp; omega), wp_join, wp_ldF hA rfl, asSlice_slice]
        have hM := hs.isMap
        have hXr9 := hXr.stepM hF9 hM (R' := fun cs (u : AT) => cs = u.c ∧ AFull σ9 u) fun _ _ h => ⟨h.1, h.2.stepM hF9 hM⟩
        have hYr9 := hYr.stepM hF9 hM (R' := fun cs (u : AT) => cs = u.c ∧ AFull σ9 u) fun _ _ h => ⟨h.1, h.2.stepM hF9 hM⟩
        refine wp_rowOf hXr9 hj rfl fun cs hcx => ?_
        by_cases hjy : j < Y.args.length
        case neg =>
          rw [List.drop_eq_getElem_cons hj, List.drop_of_length_le (Nat.le_of_not_lt hjy)] at hp
          cases hp
        rw [List.drop_eq_getElem_cons hj, List.drop_eq_getElem_cons hjy] at hp
        generalize X.args[j] = x' at hcx hp
        obtain ⟨rfl, hx'⟩ := hcx
        have hxi := fun y' (hy' : AFull σ9 y') e S' => ih σ9 Sj x' y' e S' hs9 hx' hy'
        obtain ⟨xp', xc', hxc'⟩ := hx'.cells
        rw [hxc'] at hxi ⊢
        simp only [asAgg_agg, asCons_cons, asInt_int, asStr_str, asSlice_slice, asNil_nil]
        rw [wp_ldF hB rfl, asSlice_slice]
        refine wp_rowOf hYr9 hjy rfl fun cs hcy => ?_
        generalize Y.args[j] = y' at hcy hp
        obtain ⟨rfl, hy'⟩ := hcy
        have hxi := hxi y' hy'
        obtain ⟨yp', yc', hyc'⟩ := hy'.cells
        rw [hyc'] at hxi ⊢
        simp only [asAgg_agg, asCons_cons, asInt_int, asStr_str, asSlice_slice, asNil_nil]
        unfold pairsM at hp
        cases ho : oneM k Sj x' y' with
        | none => rw [ho] at hp; cases hp
        | some o =>
        obtain ⟨e', Sj'⟩ := o
        rw [ho] at hp
        simp only at hp
        rw [wp_call]
        refine WpF.mono (hxi e' Sj' ho) ?_
        rintro _ σ10 ⟨rfl, hF10, hs10⟩
        have hF010 := hF9.seq hF10
        rw [asInt_int, wp_bif]
        by_cases he : e' = 0
        · rw [if_pos he] at hp
          subst he
          rw [if_neg (by simp), wp_ret]
          simp only [T34k3, sw_nr, sw_same, asCons_cons, asInt_int, asNil_nil]
          rw [wp_ret, ej]
          exact ⟨c, Sj', rfl, hF010, hs10, by have := hF10.n; omega, hF10.st hA (by omega), hF10.st hB (by omega), hp⟩
        · rw [if_neg he] at hp
          cases hp
          rw [if_pos (by simpa using he), wp_ret]
          simp only [T34k3, sw_same, asCons_cons, asInt_int, asNil_nil]
          rw [wp_ret]
          simp only [T34k4, sw_re, sw_same, asCons_cons, asInt_int, asNil_nil]
          rw [wp_ret]
          exact ⟨_, rfl, rfl, hF010, hs10⟩
      · rintro st σ9 ⟨c, Sj, rfl, hF9, hs9, hn9, hA, hB, hp⟩
        rw [List.drop_length] at hp
        simp only [pairsM] at hp
        cases hp
        simp only [T34b0, asCons_cons, asInt_int, asNil_nil]
        rw [wp_bif, if_neg (by simp), wp_ret]
        simp only [T34k4, sw_same, asCons_cons, asInt_int, asNil_nil]
        rw [wp_ret]
        exact ⟨_, rfl, rfl, hF9, hs9⟩
end
end Go.Pg
