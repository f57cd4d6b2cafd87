/- Layer 5: the document's Show. -/
import Derived.Test.YtoilldfibaeokaaDoorTyX
namespace Go.Pg
open Go.Proofs Go.Lib

section
variable {ov : Ov}
theorem wp_showR (hO : OvT ov) {l : List Int} {q : Option Addr} {b qc : Nat} (hll : l.length ≤ 1000000) : ∀ (k : Nat) (σ : AHeap) (t : AT), SizeOf.sizeOf t ≤ k → AFull σ t → SlV σ b q qc (ints .i64 l) → (showM (nmOf 0 l) t).length ≤ 1000000000 →
    RetO ov 45 [.agg t.c.toArray, .slice q l.length qc] σ (.string (bs (showM (nmOf 0 l) t))) := by
  intro k
  induction k with
  | zero => intro σ t h; cases t; simp at h
  | succ k ih =>
    intro σ t hk ht hQ hmx
    have hsz : ∀ u ∈ t.args, SizeOf.sizeOf u ≤ k := by
      cases t with
      | mk d l =>
        intro u hu
        have := List.sizeOf_lt_of_mem (show u ∈ l from hu)
        simp at hk
        omega
    obtain ⟨p, cap, hc, hrow⟩ := ht.row
    rw [showM_eq] at hmx ⊢
    rw [hc]
    refine WpF.of (T45_eq _ _ _ _ _ _ _ _ _) (hO _ (by decide) (by decide) (by decide)) ?_
    rw [T45]
    refine wp_newQ fun σ1 hF1 hn1 hS1 => ?_
    have hQ1 := hQ.frm hF1 fun _ h => h
    generalize hN : showN (nmOf 0 l) t.a.1 (t.args.map (showM (nmOf 0 l))) = N at hmx ⊢
    have fin : ∀ (s : ByteArray) (σ' : AHeap), Frm σ σ' NoB → s = bs N → Wp PROG ov (T45k5 .ret [.string s]) σ' fun _ vs σ' => ∃ v, vs = [v] ∧ v = .string (bs N) ∧ Frm σ σ' NoB := fun s σ' hF hs => by
      simp only [T45k5, sw_same, asCons_cons, asStr_str, asNil_nil]
      rw [wp_ret]
      exact ⟨_, rfl, by rw [hs], hF⟩
    have none' : ∀ (s : ByteArray) (σ' : AHeap), Frm σ σ' NoB → [] = N → Wp PROG ov (T45k5 .normal [.string s]) σ' fun _ vs σ' => ∃ v, vs = [v] ∧ v = .string (bs N) ∧ Frm σ σ' NoB := fun s σ' hF hs => by
      simp only [T45k5, sw_nr, sw_same, asCons_cons, asStr_str, asNil_nil]
      rw [wp_ret]
      exact ⟨_, rfl, by rw [hs], hF⟩
    rw [wp_ldF hS1 rfl, asInt_int, wp_join, wp_bif]
    by_cases h1 : t.k = 1
    · rw [if_pos (by simpa using h1), wp_ret]
      exact fin _ _ hF1 (by rw [← hN]; simp [showN, h1])
    rw [if_neg (by simpa using h1), wp_bif]
    by_cases h2 : t.k = 2
    · rw [if_pos (by simpa using h2), wp_ret]
      exact fin _ _ hF1 (by rw [← hN]; simp [showN, h2])
    rw [if_neg (by simpa using h2), wp_bif]
    by_cases h3 : t.k = 3
    · rw [if_pos (by simpa using h3), wp_ret]
      exact fin _ _ hF1 (by rw [← hN]; simp [showN, h3])
    rw [if_neg (by simpa using h3), wp_bif]
    by_cases h4 : t.k = 4
    · rw [if_pos (by simpa using h4), wp_ldF hS1 rfl, asStr_str, wp_ret]
      exact fin _ _ hF1 (by rw [← hN]; simp [showN, h4, bs_self])
    rw [if_neg (by simpa using h4), wp_join, wp_bif]
    by_cases h5 : t.k = 5
    · rw [if_pos (by simpa using h5), wp_ldF hS1 rfl, asSlice_slice, wp_bif]
      by_cases hl2 : t.args.length = 2
      · rw [if_pos (by simp; omega), wp_ldF hS1 rfl, asSlice_slice]
        have hN' : N = [40] ++ (t.args.map (showM (nmOf 0 l))).getD 0 [] ++ [32, 45, 62, 32] ++ (t.args.map (showM (nmOf 0 l))).getD 1 [] ++ [41] := by
          rw [← hN, showN, if_neg (show ¬ t.k = 7 by omega), if_pos (by simpa using ⟨h5, hl2⟩)]
        obtain ⟨x, y, hxy⟩ : ∃ x y, t.args = [x, y] := by
          match t.args, hl2 with
          | [x, y], _ => exact ⟨x, y, rfl⟩
        rw [hxy] at hrow hsz hS1 hN' ⊢
        simp only [List.map_cons, List.map_nil, List.getD_cons_zero, List.getD_cons_succ] at hN'
        obtain ⟨w, rfl, hx, hxl⟩ := row_at hrow (i := 0) (by simp)
        obtain ⟨w', hw, hy, hyl⟩ := row_at hrow (i := 1) (by simp)
        cases hw
        simp only [Nat.zero_mul, Nat.one_mul, List.getElem_cons_zero, List.getElem_cons_succ] at hx hxl hy hyl
        have hl := congrArg List.length hN'
        simp only [List.length_append, List.length_cons, List.length_nil] at hl
        have hix := fun σ' (hF : Frm σ σ' NoB) => ih σ' x (hsz x (by simp)) (hx.frm hF) (hQ.frm hF fun _ h => h) (by omega)
        have hiy := fun σ' (hF : Frm σ σ' NoB) => ih σ' y (hsz y (by simp)) (hy.frm hF) (hQ.frm hF fun _ h => h) (by omega)
        rw [asSome_some, wp_grd]
        refine ⟨by simp, ?_⟩
        rw [wp_act, hxl σ1 hF1]
        obtain ⟨xp, xc, hxc⟩ := hx.cells
        rw [hxc] at hix ⊢
        simp only [asAgg_agg, asCons_cons, asInt_int, asStr_str, asSlice_slice, asNil_nil]
        rw [wp_get, wp_call]
        refine WpF.mono (hix σ1 hF1) ?_
        rintro _ σ2 ⟨rfl, hF2⟩
        have hF02 := hF1.seq hF2
        rw [asStr_str, wp_grd]
        refine ⟨by rw [Nat.ble_eq, bs_size]; omega, ?_⟩
        rw [bs_app, wp_grd]
        refine ⟨by rw [Nat.ble_eq, bs_size, List.length_append]; simp only [List.length_cons, List.length_nil]; omega, ?_⟩
        rw [wp_ldF (hF2.stN hS1) rfl, wp_grd]
        refine ⟨past_ok (hS1.ldF rfl), ?_⟩
        rw [asSlice_slice, asSome_some, wp_grd]
        refine ⟨by simp, ?_⟩
        rw [wp_act, hyl σ2 hF02]
        simp only []
        rw [wp_grd]
        refine ⟨past_ok (hyl σ1 hF1), ?_⟩
        obtain ⟨yp, yc, hyc⟩ := hy.cells
        rw [hyc] at hiy ⊢
        simp only [asAgg_agg, asCons_cons, asInt_int, asStr_str, asSlice_slice, asNil_nil]
        rw [wp_call]
        refine WpF.mono (hiy σ2 hF02) ?_
        rintro _ σ3 ⟨rfl, hF3⟩
        simp only [asStr_str, bs_app]
        rw [wp_grd]
        refine ⟨by rw [Nat.ble_eq, bs_size, bs_size]; simp only [List.length_append, List.length_cons, List.length_nil]; omega, ?_⟩
        rw [wp_grd]
        refine ⟨by rw [Nat.ble_eq, bs_size]; simp only [List.length_append, List.length_cons, List.length_nil]; omega, ?_⟩
        rw [wp_ret]
        simp only [T45k4, sw_same, asCons_cons, asStr_str, asNil_nil]
        rw [wp_ret]
        refine fin _ _ (hF02.seq hF3) ?_
        rw [hN']
      · rw [if_neg (by simp; omega), wp_ret]
        simp only [T45k4, sw_nr, sw_same, asCons_cons, asStr_str, asNil_nil]
        rw [wp_ret]
        exact none' _ _ hF1 (by rw [← hN]; simp [showN, h5, hl2])
    rw [if_neg (by simpa using h5), wp_join, wp_bif]
    by_cases h6 : t.k = 6
    · rw [if_pos (by simpa using h6), wp_ldF hS1 rfl, asSlice_slice, wp_bif]
      by_cases hl1 : t.args.length = 1
      · rw [if_pos (by simp; omega), wp_ldF hS1 rfl, asSlice_slice]
        have hN' : N = [40] ++ (t.args.map (showM (nmOf 0 l))).getD 0 [] ++ [32, 114, 101, 102, 41] := by
          rw [← hN, showN, if_neg (show ¬ t.k = 7 by omega), if_neg (fun h => absurd h.1 (show ¬ t.k = 5 by omega)), if_pos (by simpa using ⟨h6, hl1⟩)]
        obtain ⟨x, hxy⟩ : ∃ x, t.args = [x] := by
          match t.args, hl1 with
          | [x], _ => exact ⟨x, rfl⟩
        rw [hxy] at hrow hsz hS1 hN' ⊢
        simp only [List.map_cons, List.map_nil, List.getD_cons_zero] at hN'
        obtain ⟨w, rfl, hx, hxl⟩ := row_at hrow (i := 0) (by simp)
        simp only [Nat.zero_mul, List.getElem_cons_zero] at hx hxl
        have hl := congrArg List.length hN'
        simp only [List.length_append, List.length_cons, List.length_nil] at hl
        have hix := fun σ' (hF : Frm σ σ' NoB) => ih σ' x (hsz x (by simp)) (hx.frm hF) (hQ.frm hF fun _ h => h) (by omega)
        rw [asSome_some, wp_grd]
        refine ⟨by simp, ?_⟩
        rw [wp_act, hxl σ1 hF1]
        obtain ⟨xp, xc, hxc⟩ := hx.cells
        rw [hxc] at hix ⊢
        simp only [asAgg_agg, asCons_cons, asInt_int, asStr_str, asSlice_slice, asNil_nil]
        rw [wp_call]
        refine WpF.mono (hix σ1 hF1) ?_
        rintro _ σ2 ⟨rfl, hF2⟩
        simp only [asStr_str, bs_app]
        rw [wp_grd]
        refine ⟨by rw [Nat.ble_eq, bs_size]; omega, ?_⟩
        rw [wp_grd]
        refine ⟨by rw [Nat.ble_eq, bs_size]; simp only [List.length_append, List.length_cons, List.length_nil]; omega, ?_⟩
        rw [wp_ret]
        simp only [T45k3, sw_same, asCons_cons, asStr_str, asNil_nil]
        rw [wp_ret]
        simp only [T45k4, sw_same, asCons_cons, asStr_str, asNil_nil]
        rw [wp_ret]
        refine fin _ _ (hF1.seq hF2) ?_
        rw [hN']
      · rw [if_neg (by simp; omega), wp_ret]
        simp only [T45k3, sw_nr, sw_same, asCons_cons, asStr_str, asNil_nil]
        rw [wp_ret]
        simp only [T45k4, sw_nr, sw_same, asCons_cons, asStr_str, asNil_nil]
        rw [wp_ret]
        exact none' _ _ hF1 (by rw [← hN]; simp [showN, h6, hl1])
    rw [if_neg (by simpa using h6), wp_join, wp_bif]
    by_cases h7 : t.k = 7
    · rw [if_pos (by simpa using h7)]
      have hN' : N = nmOf 0 l t.v := by rw [← hN, showN, if_pos h7]
      have hrd := hQ1.rdB.rd
      have out : ∀ (s : ByteArray) (i : Int) (σ' : AHeap), Frm σ σ' NoB → s = bs N → Wp PROG ov (T45k0 i .ret [.string s]) σ' fun e vs σ' => match e with
          | .normal => False
          | e => Wp PROG ov (T45k1 e vs) σ' fun e vs σ' => Wp PROG ov (T45k2 e vs) σ' fun e vs σ' => Wp PROG ov (T45k3 e vs) σ' fun e vs σ' => Wp PROG ov (T45k4 e vs) σ' fun e vs σ' => Wp PROG ov (T45k5 e vs) σ' fun _ vs σ' => ∃ v, vs = [v] ∧ v = .string (bs N) ∧ Frm σ σ' NoB := fun s i σ' hF hs => by
        simp only [T45k0, sw_same, asCons_cons, asStr_str, asNil_nil]
        rw [wp_ret]
        simp only [T45k1, sw_re, sw_same, asCons_cons, asInt_int, asStr_str, asNil_nil]
        rw [wp_ret]
        simp only [T45k2, sw_same, asCons_cons, asStr_str, asNil_nil]
        rw [wp_ret]
        simp only [T45k3, sw_same, asCons_cons, asStr_str, asNil_nil]
        rw [wp_ret]
        simp only [T45k4, sw_same, asCons_cons, asStr_str, asNil_nil]
        rw [wp_ret]
        exact fin s σ' hF hs
      refine Wp.count l.length (fun j st σ' => st = [.int .i64 ((j : Nat) : Int), .string (bs [])] ∧ σ' = σ1 ∧ nmOf j (l.drop j) t.v = N) ⟨rfl, rfl, hN'.symm⟩ ?_ ?_
      · rintro j st _ hj ⟨rfl, rfl, hno⟩
        have ej : wi64 ((j : Int) + 1) = ((j + 1 : Nat) : Int) := by rw [wi64_in (by omega)]; omega
        rw [List.drop_eq_getElem_cons hj, nmOf] at hno
        simp only [T45b0, asCons_cons, asInt_int, asStr_str, asNil_nil]
        rw [wp_bif, if_pos (by simp; omega), wp_join, wp_rdI hrd (by omega) (by omega), Int.toNat_natCast, getD_at hj, wp_ldF hS1 rfl, asInt_int, wp_bif]
        by_cases he : l[j] = t.v
        · rw [if_pos he] at hno
          rw [if_pos (by simpa using he), wp_bif]
          by_cases h26 : j < 26
          · rw [if_pos (by simp; omega)]
            have e1 : wi64 (97 + (j : Int)) = 97 + (j : Int) := wi64_in (by omega)
            have e2 : wu8 (97 + (j : Int)) = 97 + (j : Int) := wu8_in (by omega)
            rw [e1, e2]
            refine wp_byteStr fun σ2 hF2 => ?_
            rw [wp_grd, show (97 + (j : Int)).toNat = 97 + j by omega]
            refine ⟨by rw [Nat.ble_eq, bs_size]; simp, ?_⟩
            rw [bs_app, wp_ret]
            refine Wp.mono _ _ _ _ ?_ (out _ _ σ2 (hF1.seq hF2) (by rw [← hno, letB, if_pos h26]; rfl))
            intro e vs σ' h
            cases e <;> first | exact h.elim | exact h
          · rw [if_neg (by simp; omega), ej, wp_call]
            refine WpF.mono (wp_digN hO (j + 1) (j + 1) (Nat.le_refl _) (by omega) _) ?_
            rintro _ σ2 ⟨rfl, hF2⟩
            have := dec_len 19 (j + 1) (by omega)
            rw [asStr_str, wp_grd]
            refine ⟨by rw [Nat.ble_eq, bs_size]; omega, ?_⟩
            rw [bs_app, wp_ret]
            refine Wp.mono _ _ _ _ ?_ (out _ _ σ2 (hF1.seq hF2) (by rw [← hno, letB, if_neg h26]; rfl))
            intro e vs σ' h
            cases e <;> first | exact h.elim | exact h
        · rw [if_neg he] at hno
          rw [if_neg (by simpa using he), wp_ret]
          simp only [T45k0, sw_nr, sw_same, asCons_cons, asStr_str, asNil_nil]
          rw [wp_ret, ej]
          exact ⟨rfl, rfl, hno⟩
      · rintro st _ ⟨rfl, rfl, hno⟩
        rw [List.drop_length, nmOf] at hno
        simp only [T45b0, asCons_cons, asInt_int, asStr_str, asNil_nil]
        rw [wp_bif, if_neg (by simp), wp_ret]
        simp only [T45k1, sw_same, asCons_cons, asInt_int, asStr_str, asNil_nil]
        rw [wp_ret]
        simp only [T45k2, sw_nr, sw_same, asCons_cons, asStr_str, asNil_nil]
        rw [wp_ret]
        simp only [T45k3, sw_nr, sw_same, asCons_cons, asStr_str, asNil_nil]
        rw [wp_ret]
        simp only [T45k4, sw_nr, sw_same, asCons_cons, asStr_str, asNil_nil]
        rw [wp_ret]
        exact none' _ _ hF1 hno
    · rw [if_neg (by simpa using h7), wp_ret]
      simp only [T45k2, sw_nr, sw_same, asCons_cons, asStr_str, asNil_nil]
      rw [wp_ret]
      simp only [T45k3, sw_nr, sw_same, asCons_cons, asStr_str, asNil_nil]
      rw [wp_ret]
      simp only [T45k4, sw_nr, sw_same, asCons_cons, asStr_str, asNil_nil]
      rw [wp_ret]
      exact none' _ _ hF1 (by rw [← hN]; simp [showN, h1, h2, h3, h4, h5, h6, h7])

theorem wp_ShowR (hO : OvT ov) {σ : AHeap} {t : AT} (hf : Fresh σ) (ht : AFull σ t) (hmx : (varsM t []).length ≤ 1000000) (hmx2 : (showM (nmOf 0 (varsM t [])) t).length ≤ 1000000000) :
    RetO ov 24 [.agg t.c.toArray] σ (.string (bs (showM (nmOf 0 (varsM t [])) t))) := by
  have hz := fun σ' (hF : Frm σ σ' NoB) => wp_VarsR hO (hF.fr hf) (ht.frm hF) hmx
  have hsh := fun σ' q b qc (hF : Frm σ σ' NoB) (h : SlV σ' b q qc (ints .i64 (varsM t []))) => wp_showR hO hmx _ σ' t (Nat.le_refl _) (ht.frm hF) h hmx2
  obtain ⟨p, cap, hc⟩ := ht.cells
  rw [hc] at hz hsh ⊢
  refine WpF.of (T24_eq _ _ _ _ _ _) (hO _ (by decide) (by decide) (by decide)) ?_
  rw [T24]
  refine wp_newQ fun σ1 hF1 hn1 hS1 => ?_
  rw [wp_ldAll hS1 4 rfl]
  simp only [asAgg_agg, asCons_cons, asInt_int, asStr_str, asSlice_slice, asNil_nil]
  rw [wp_ldAll hS1 4 rfl]
  simp only [asAgg_agg, asCons_cons, asInt_int, asStr_str, asSlice_slice, asNil_nil]
  rw [wp_call]
  refine WpF.mono (hz σ1 hF1) ?_
  rintro _ σ2 ⟨hF2, q', b', cap', rfl, hQ⟩
  rw [asSlice_slice, wp_get, wp_grd]
  refine ⟨chks_one ((hF2.stN hS1).ldAll 4 rfl), ?_⟩
  rw [wp_call]
  refine WpF.mono (hsh σ2 q' b' cap' (hF1.seq hF2) hQ) ?_
  rintro _ σ3 ⟨rfl, hF3⟩
  rw [asStr_str, wp_ret]
  exact ⟨_, rfl, rfl, (hF1.seq hF2).seq hF3⟩
end
end Go.Pg
