/- Layer 5: Show, the program's and the document's. -/
import Derived.Test.YtoilldfibaeokaaDoorTyW
namespace Go.Pg
open Go.Proofs Go.Lib

section
variable {ov : Ov}
theorem getMap_frm {σ σ' : AHeap} {q : Nat} {es : List (Value × Value)} (f : Frm σ σ' NoB) (hq : q < σ.n) (h : σ.getMap q = some es) : σ'.getMap q = some es := by
  unfold AHeap.getMap at h ⊢
  rw [f.get q hq fun h => h]
  exact h

theorem wp_show (hO : OvT ov) {q : Nat} {l : List Int} : ∀ (k : Nat) (σ : AHeap) (t : AT), SizeOf.sizeOf t ≤ k → AFull σ t → q < σ.n → σ.getMap q = some (esN 0 l) → (showM (nmOf 0 l) t).length ≤ 1000000000 →
    RetO ov 43 [.agg t.c.toArray, .map (some q)] σ (.string (bs (showM (nmOf 0 l) t))) := by
  intro k
  induction k with
  | zero => intro σ t h; cases t; simp at h
  | succ k ih =>
    intro σ t hk ht hq hm hmx
    have hsz : ∀ u ∈ t.args, SizeOf.sizeOf u ≤ k := by
      cases t with
      | mk d l =>
        intro u hu
        have := List.sizeOf_lt_of_mem (show u ∈ l from hu)
        simp at hk
        omega
    obtain ⟨p, cap, hc, hrow⟩ := ht.row
    rw [showM_eq] at hmx ⊢
    rw [hc]
    refine WpF.of (T43_eq _ _ _ _ _ _ _) (hO _ (by decide) (by decide) (by decide)) ?_
    rw [T43]
    refine wp_newQ fun σ1 hF1 hn1 hS1 => ?_
    generalize hN : showN (nmOf 0 l) t.a.1 (t.args.map (showM (nmOf 0 l))) = N at hmx ⊢
    have fin : ∀ (s : ByteArray) (σ' : AHeap), Frm σ σ' NoB → s = bs N → Wp PROG ov (T43k2 .ret [.string s]) σ' fun _ vs σ' => ∃ v, vs = [v] ∧ v = .string (bs N) ∧ Frm σ σ' NoB := fun s σ' hF hs => by
      simp only [T43k2, sw_same, asCons_cons, asStr_str, asNil_nil]
      rw [wp_ret]
      exact ⟨_, rfl, by rw [hs], hF⟩
    rw [wp_join, wp_ldF hS1 rfl, asInt_int, wp_bif]
    by_cases h7 : t.k = 7
    · rw [if_pos (by simpa using h7), wp_ldF hS1 rfl, asInt_int, wp_act, esN_lkp (getMap_frm hF1 hq hm)]
      simp only [asStr_str]
      rw [wp_ret]
      refine fin _ _ hF1 ?_
      rw [← hN, showN, if_pos h7]
    rw [if_neg (by simpa using h7), wp_join, wp_ldF hS1 rfl, asInt_int, wp_bif]
    have five : ∀ b : Bool, b = decide (t.k = 5 ∧ t.args.length = 2) → Wp PROG ov (T43k1 ⟨σ.n, 0, some 0⟩ (some q) .normal [.bool b]) σ1 fun e vs σ' => Wp PROG ov (T43k2 e vs) σ' fun _ vs σ' => ∃ v, vs = [v] ∧ v = .string (bs N) ∧ Frm σ σ' NoB := fun b hb => by
      subst hb
      simp only [T43k1, sw_same, asCons_cons, asBool_bool, asNil_nil]
      rw [wp_bif]
      by_cases h5 : t.k = 5 ∧ t.args.length = 2
      · rw [if_pos (by simpa using h5), wp_ldF hS1 rfl, asSlice_slice]
        have hN' : N = [40] ++ (t.args.map (showM (nmOf 0 l))).getD 0 [] ++ [32, 45, 62, 32] ++ (t.args.map (showM (nmOf 0 l))).getD 1 [] ++ [41] := by
          rw [← hN, showN, if_neg h7, if_pos (by simpa using h5)]
        obtain ⟨x, y, hxy⟩ : ∃ x y, t.args = [x, y] := by
          have := h5.2
          match t.args, this with
          | [x, y], _ => exact ⟨x, y, rfl⟩
        rw [hxy] at hrow hsz hS1 hN' ⊢
        simp only [List.map_cons, List.map_nil, List.getD_cons_zero, List.getD_cons_succ] at hN'
        obtain ⟨w, rfl, hx, hxl⟩ := row_at hrow (i := 0) (by simp)
        obtain ⟨w', hw, hy, hyl⟩ := row_at hrow (i := 1) (by simp)
        cases hw
        simp only [Nat.zero_mul, Nat.one_mul, List.getElem_cons_zero, List.getElem_cons_succ] at hx hxl hy hyl
        have hl := congrArg List.length hN'
        simp only [List.length_append, List.length_cons, List.length_nil] at hl
        have hix := fun σ' (hF : Frm σ σ' NoB) => ih σ' x (hsz x (by simp)) (hx.frm hF) (Nat.lt_of_lt_of_le hq hF.n) (getMap_frm hF hq hm) (by omega)
        have hiy := fun σ' (hF : Frm σ σ' NoB) => ih σ' y (hsz y (by simp)) (hy.frm hF) (Nat.lt_of_lt_of_le hq hF.n) (getMap_frm hF hq hm) (by omega)
        rw [asSome_some, wp_grd]
        refine ⟨by simp, ?_⟩
        rw [wp_act, hxl σ1 hF1]
        obtain ⟨xp, xc, hxc⟩ := hx.cells
        rw [hxc] at hix ⊢
        simp only [asAgg_agg, asCons_cons, asInt_int, asStr_str, asSlice_slice, asNil_nil]
        rw [wp_get, wp_call]
        refine WpF.mono (hix σ1 hF1) ?_
        rintro _ σ2 ⟨rfl, hF2⟩
        have hF02 := hF1.seq hF2
        rw [asStr_str, wp_grd]
        refine ⟨by rw [Nat.ble_eq, bs_size]; omega, ?_⟩
        rw [bs_app, wp_grd]
        refine ⟨by rw [Nat.ble_eq, bs_size, List.length_append]; simp only [List.length_cons, List.length_nil]; omega, ?_⟩
        rw [wp_ldF (hF2.stN hS1) rfl, wp_grd]
        refine ⟨past_ok (hS1.ldF rfl), ?_⟩
        rw [asSlice_slice, asSome_some, wp_grd]
        refine ⟨by simp, ?_⟩
        rw [wp_act, hyl σ2 hF02]
        simp only []
        rw [wp_grd]
        refine ⟨past_ok (hyl σ1 hF1), ?_⟩
        obtain ⟨yp, yc, hyc⟩ := hy.cells
        rw [hyc] at hiy ⊢
        simp only [asAgg_agg, asCons_cons, asInt_int, asStr_str, asSlice_slice, asNil_nil]
        rw [wp_call]
        refine WpF.mono (hiy σ2 hF02) ?_
        rintro _ σ3 ⟨rfl, hF3⟩
        simp only [asStr_str, bs_app]
        rw [wp_grd]
        refine ⟨by rw [Nat.ble_eq, bs_size, bs_size]; simp only [List.length_append, List.length_cons, List.length_nil]; omega, ?_⟩
        rw [wp_grd]
        refine ⟨by rw [Nat.ble_eq, bs_size]; simp only [List.length_append, List.length_cons, List.length_nil]; omega, ?_⟩
        rw [wp_ret]
        refine fin _ _ (hF02.seq hF3) ?_
        rw [hN']
      rw [if_neg (by simpa using h5), wp_join, wp_ldF hS1 rfl, asInt_int, wp_bif]
      have six : ∀ b : Bool, b = decide (t.k = 6 ∧ t.args.length = 1) → Wp PROG ov (T43k0 ⟨σ.n, 0, some 0⟩ (some q) .normal [.bool b]) σ1 fun e vs σ' => Wp PROG ov (T43k2 e vs) σ' fun _ vs σ' => ∃ v, vs = [v] ∧ v = .string (bs N) ∧ Frm σ σ' NoB := fun b hb => by
        subst hb
        simp only [T43k0, sw_same, asCons_cons, asBool_bool, asNil_nil]
        rw [wp_bif]
        by_cases h6 : t.k = 6 ∧ t.args.length = 1
        · rw [if_pos (by simpa using h6), wp_ldF hS1 rfl, asSlice_slice]
          have hN' : N = [40] ++ (t.args.map (showM (nmOf 0 l))).getD 0 [] ++ [32, 114, 101, 102, 41] := by
            rw [← hN, showN, if_neg h7, if_neg (by simpa using h5), if_pos (by simpa using h6)]
          obtain ⟨x, hxy⟩ : ∃ x, t.args = [x] := by
            have := h6.2
            match t.args, this with
            | [x], _ => exact ⟨x, rfl⟩
          rw [hxy] at hrow hsz hS1 hN' ⊢
          simp only [List.map_cons, List.map_nil, List.getD_cons_zero] at hN'
          obtain ⟨w, rfl, hx, hxl⟩ := row_at hrow (i := 0) (by simp)
          simp only [Nat.zero_mul, List.getElem_cons_zero] at hx hxl
          have hl := congrArg List.length hN'
          simp only [List.length_append, List.length_cons, List.length_nil] at hl
          have hix := fun σ' (hF : Frm σ σ' NoB) => ih σ' x (hsz x (by simp)) (hx.frm hF) (Nat.lt_of_lt_of_le hq hF.n) (getMap_frm hF hq hm) (by omega)
          rw [asSome_some, wp_grd]
          refine ⟨by simp, ?_⟩
          rw [wp_act, hxl σ1 hF1]
          obtain ⟨xp, xc, hxc⟩ := hx.cells
          rw [hxc] at hix ⊢
          simp only [asAgg_agg, asCons_cons, asInt_int, asStr_str, asSlice_slice, asNil_nil]
          rw [wp_call]
          refine WpF.mono (hix σ1 hF1) ?_
          rintro _ σ2 ⟨rfl, hF2⟩
          simp only [asStr_str, bs_app]
          rw [wp_grd]
          refine ⟨by rw [Nat.ble_eq, bs_size]; omega, ?_⟩
          rw [wp_grd]
          refine ⟨by rw [Nat.ble_eq, bs_size]; simp only [List.length_append, List.length_cons, List.length_nil]; omega, ?_⟩
          rw [wp_ret]
          refine fin _ _ (hF1.seq hF2) ?_
          rw [hN']
        rw [if_neg (by simpa using h6), wp_ldF hS1 rfl, asInt_int, wp_bif]
        rw [showN, if_neg h7, if_neg (by simpa using h5), if_neg (by simpa using h6)] at hN
        by_cases h1 : t.k = 1
        · rw [if_pos (by simpa using h1), wp_ret]
          rw [if_pos h1] at hN
          exact fin _ _ hF1 (by rw [← hN])
        rw [if_neg h1] at hN
        rw [if_neg (by simpa using h1), wp_ldF hS1 rfl, asInt_int, wp_bif]
        by_cases h2 : t.k = 2
        · rw [if_pos (by simpa using h2), wp_ret]
          rw [if_pos h2] at hN
          exact fin _ _ hF1 (by rw [← hN])
        rw [if_neg h2] at hN
        rw [if_neg (by simpa using h2), wp_ldF hS1 rfl, asInt_int, wp_bif]
        by_cases h3 : t.k = 3
        · rw [if_pos (by simpa using h3), wp_ret]
          rw [if_pos h3] at hN
          exact fin _ _ hF1 (by rw [← hN])
        rw [if_neg h3] at hN
        rw [if_neg (by simpa using h3), wp_ldF hS1 rfl, asInt_int, wp_bif]
        by_cases h4 : t.k = 4
        · rw [if_pos (by simpa using h4), wp_ldF hS1 rfl, asStr_str, wp_ret]
          rw [if_pos h4] at hN
          exact fin _ _ hF1 (by rw [← hN, bs_self])
        rw [if_neg h4] at hN
        rw [if_neg (by simpa using h4), wp_ret]
        simp only [T43k2, sw_nr, sw_same, asCons_cons, asStr_str, asNil_nil]
        rw [wp_ret]
        exact ⟨_, rfl, by rw [← hN], hF1⟩
      by_cases h6 : t.k = 6
      · rw [if_pos (by simpa using h6), wp_ldF hS1 rfl, asSlice_slice, wp_ret]
        exact six _ (by
          by_cases e : t.args.length = 1
          · simp [h6, e]
          · have : (((t.args.length : Nat) : Int) == 1) = false := by simp; omega
            simp [h6, e, this])
      · rw [if_neg (by simpa using h6), wp_ret]
        exact six _ (by simp [h6])
    by_cases h5 : t.k = 5
    · rw [if_pos (by simpa using h5), wp_ldF hS1 rfl, asSlice_slice, wp_ret]
      exact five _ (by
        by_cases e : t.args.length = 2
        · simp [h5, e]
        · have : (((t.args.length : Nat) : Int) == 2) = false := by simp; omega
          simp [h5, e, this])
    · rw [if_neg (by simpa using h5), wp_ret]
      exact five _ (by simp [h5])

theorem wp_Show (hO : OvT ov) (hI : ov 55 = some (ovPure itoaG)) {σ : AHeap} {t : AT} (ht : AFull σ t) (hmx : (varsM t []).length ≤ 1000000) (hmx2 : (showM (nmOf 0 (varsM t [])) t).length ≤ 1000000000) :
    RetO ov 20 [.agg t.c.toArray] σ (.string (bs (showM (nmOf 0 (varsM t [])) t))) := by
  have hz := fun σ' (hF : Frm σ σ' NoB) => wp_Vars hO (ht.frm hF) hmx
  have hsh := fun σ' q (hF : Frm σ σ' NoB) (hq : q < σ'.n) (h : σ'.getMap q = some (esN 0 (varsM t []))) => wp_show hO _ σ' t (Nat.le_refl _) (ht.frm hF) hq h hmx2
  have hnd := varsM_nodup t [] List.nodup_nil
  obtain ⟨p, cap, hc⟩ := ht.cells
  rw [hc] at hz hsh ⊢
  generalize varsM t [] = l at *
  refine WpF.of (T20_eq _ _ _ _ _ _) (hO _ (by decide) (by decide) (by decide)) ?_
  rw [T20]
  refine wp_newQ fun σ1 hF1 hn1 hS1 => ?_
  rw [wp_act]
  have hF2 : Frm σ1 (σ1.push (.map [])) NoB := ⟨by simp, rfl, fun j hj _ => get_push_lt _ _ hj, fun f j hj => by
    have hj' : σ1.n + 1 ≤ j := hj
    rw [AHeap.get_push, if_neg (by omega)]
    exact f j (by omega)⟩
  simp only [makeMapAct, asMap_map]
  have hg2 : (σ1.push (.map [])).get σ1.n = some (.map []) := get_push_same _ _
  have hn2 : (σ1.push (.map [])).n = σ1.n + 1 := by simp
  generalize hq : σ1.n = q at hg2 hn2 ⊢
  generalize σ1.push (.map []) = σ2 at hF2 hg2 hn2 ⊢
  have hF02 := hF1.seq hF2
  rw [wp_ldAll (hF2.stN hS1) 4 rfl]
  simp only [asAgg_agg, asCons_cons, asInt_int, asStr_str, asSlice_slice, asNil_nil]
  rw [wp_call]
  refine WpF.mono (hz σ2 hF02) ?_
  rintro _ σ3 ⟨hF3, q', b', cap', rfl, hQ, hb⟩
  rw [asSlice_slice]
  have hg3 : σ3.get q = some (.map []) := by
    rw [hF3.get q (by omega) fun h => h]
    exact hg2
  have hn3 := hF3.n
  refine Wp.count l.length (fun j st σ' => st = [.int .i64 ((j : Nat) : Int)] ∧ Frm σ σ' NoB ∧ σ'.get q = some (.map (esN 0 (l.take j))) ∧ q < σ'.n ∧ SlV σ' b' q' cap' (ints .i64 l) ∧ St σ' σ.n (tcells t.a.1 (.slice p t.args.length cap))) ⟨rfl, hF02.seq hF3, hg3, by omega, hQ, hF3.stN (hF2.stN hS1)⟩ ?_ ?_
  · rintro j st σ4 hj ⟨rfl, hF4, hg4, hq4, hQ4, hS4⟩
    have ej : wi64 ((j : Int) + 1) = ((j + 1 : Nat) : Int) := by rw [wi64_in (by omega)]; omega
    simp only [T20b0, asCons_cons, asInt_int, asNil_nil]
    rw [wp_bif, if_pos (by simp; omega), wp_join, wp_rdI hQ4.rdB.rd (by omega) (by omega), Int.toNat_natCast, getD_at hj, wp_call]
    refine WpF.mono (wp_letter hO hI j (by omega) σ4) ?_
    rintro _ _ ⟨rfl, rfl⟩
    rw [asStr_str]
    have hnot : l[j] ∉ l.take j := by
      intro h
      have hnd' : (l.take j ++ l.drop j).Nodup := by rw [List.take_append_drop]; exact hnd
      rw [List.drop_eq_getElem_cons hj, List.nodup_append] at hnd'
      exact hnd'.2.2 _ h _ (List.mem_cons_self) rfl
    have hset := esN_set l[j] (l.take j) 0 hnot
    rw [Nat.zero_add, List.length_take, Nat.min_eq_left (by omega)] at hset
    refine wp_mupR hq4 hg4 hset fun σ5 hF5 hn5 hg5 => ?_
    rw [wp_ret]
    simp only [T20k0, sw_same, asNil_nil]
    rw [wp_ret, ej]
    refine ⟨rfl, hF4.fresh hF5 fun i hi h => by omega, by rw [List.take_succ_eq_append_getElem hj]; exact hg5, by omega, hQ4.frm hF5 fun h => by have := hb h; omega, hF5.st hS4 (by omega)⟩
  · rintro st σ4 ⟨rfl, hF4, hg4, hq4, hQ4, hS4⟩
    rw [List.take_length] at hg4
    simp only [T20b0, asCons_cons, asInt_int, asNil_nil]
    rw [wp_bif, if_neg (by simp), wp_ret]
    simp only [T20k1, sw_same, asCons_cons, asInt_int, asNil_nil]
    rw [wp_ldAll hS4 4 rfl]
    simp only [asAgg_agg, asCons_cons, asInt_int, asStr_str, asSlice_slice, asNil_nil]
    rw [wp_call]
    refine WpF.mono (hsh σ4 q hF4 hq4 (by unfold AHeap.getMap; rw [hg4])) ?_
    rintro _ σ5 ⟨rfl, hF5⟩
    rw [asStr_str, wp_ret]
    exact ⟨_, rfl, rfl, hF4.seq hF5⟩
end
end Go.Pg
