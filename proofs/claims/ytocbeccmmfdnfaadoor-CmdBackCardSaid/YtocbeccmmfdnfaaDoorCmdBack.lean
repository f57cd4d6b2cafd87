/- Layer 24: a command that was read is written, and read again as itself: the law's tree returns true. -/
import Derived.Test.YtocbeccmmfdnfaaDoorCmdZ
namespace Go.Pg
open Go.Proofs Go.Utf8 Go.Lib

theorem parseL_bound {S : List UInt8} {k n : Int} {t : List UInt8} (h : parseL S = some (k, n, t)) : 0 ≤ n ∧ n ≤ 999999999 ∧ t.length ≤ S.length := by
  have hfl := flds_len _ S [] (Nat.le_refl _)
  unfold parseL parseW at h
  have hfe : fld S [] = flds S := rfl
  rw [hfe] at hfl
  split at h
  · cases h
  · rename_i w l hws
    rw [hws] at hfl
    split at h
    · cases h
    · obtain ⟨⟨n', t'⟩, ha, he⟩ := Option.map_eq_some_iff.1 h
      cases he
      unfold argK at ha
      split at ha
      · split at ha
        · split at ha
          · cases ha; simp
          · cases ha
        · split at ha
          · rename_i m hm
            split at ha
            · cases ha
              have := numL_bound hm
              exact ⟨this.1, this.2, by simp⟩
            · cases ha
          · cases ha
        · cases ha
      · split at ha
        · split at ha
          · split at ha
            · cases ha
              have := hfl.1 t' (by simp)
              simp at this
              exact ⟨by simp, by simp, this⟩
            · cases ha
          · cases ha
        · split at ha
          · cases ha; simp
          · cases ha

theorem flds_round (S : List UInt8) : flds ([32] ++ S ++ [10]) = flds S := by
  rw [List.append_assoc]
  have h1 := flds_app (b := 32) (by decide) blk_32 [] (S ++ [10])
  rw [List.nil_append] at h1
  have h2 := flds_app (b := 10) (by decide) (by decide +kernel) S []
  rw [show [32] ++ (S ++ [10]) = 32 :: (S ++ [10]) from rfl, h1, h2]
  simp [flds, fld_nil]

theorem cmdBack_true (s0 : ByteArray) (_ : s0.size ≤ maxLen) : WpF PROG ovD 4 [.string s0] (startH (tabOld tabsD)) fun v _ => v = .bool true := by
  refine WpF.of (T4_eq _) rfl ?_
  rw [T4, wp_call]
  refine awake24.mono ?_
  rintro v σ rfl
  rw [← mkB_self s0]
  generalize s0.data.toList = S
  have hsz := mkB_size S
  rw [asBool_bool, wp_bif, if_neg (by simp), wp_bif]
  by_cases h0 : S.length > 200
  · rw [if_pos (by simp; omega), wp_ret]
    exact ⟨_, rfl, rfl⟩
  rw [if_neg (by simp; omega), wp_call]
  refine wp_parse S (by omega) fun σ1 hF1 => ?_
  cases hp : parseL S with
  | none =>
    simp only [pv, cv, asTuple_tuple, asAgg_agg, asCons_cons, asInt_int, asStr_str, asNil_nil]
    refine wp_newQ fun σ2 hF2 hn2 hS2 => ?_
    refine wp_stQ (vs := ccs 0 0 []) hS2 rfl rfl fun σ3 hF3 hn3 hS3 => ?_
    rw [wp_bif, if_pos (by rfl), wp_ldAll hS3 3 rfl]
    simp only [ccs, asAgg_agg, asCons_cons, asInt_int, asStr_str, asNil_nil]
    rw [wp_ret, tl_mkB, tl_bs]
    exact ⟨_, rfl, rfl⟩
  | some r =>
    obtain ⟨k, n, t⟩ := r
    have hb := parseL_bound hp
    have hsh := parse_show hp
    simp only [pv, cv, asTuple_tuple, asAgg_agg, asCons_cons, asInt_int, asStr_str, asNil_nil]
    refine wp_newQ fun σ2 hF2 hn2 hS2 => ?_
    generalize hA : σ1.n = A at hS2
    refine wp_stQ (vs := ccs k n t) hS2 rfl rfl fun σ3 hF3 hn3 hS3 => ?_
    rw [wp_bif, if_neg (by simp), wp_ldAll hS3 3 rfl]
    simp only [ccs, asAgg_agg, asCons_cons, asInt_int, asStr_str, asNil_nil]
    rw [wp_call]
    refine wp_show k n t (by omega) (by omega) (by omega) fun σ4 hF4 => ?_
    have hS4 := hF4.stN hS3
    have hshl : (showL k n t).length ≤ 1000 := by
      have hw := wordK_len k
      unfold showL
      split
      · simp
      · split
        · split
          · simp
          · obtain ⟨u, hu⟩ : ∃ u : Nat, n = (u : Int) := ⟨n.toNat, by omega⟩
            have := dec_len 8 u (by omega)
            rw [hu, itoa_nonneg]
            simp
            omega
        · split
          · split
            · simp; omega
            · simp
          · omega
    rw [asStr_str, wp_call]
    refine wp_parse _ hshl fun σ5 hF5 => ?_
    rw [hsh]
    have hS5 := hF5.stN hS4
    simp only [pv, cv, asTuple_tuple, asAgg_agg, asCons_cons, asInt_int, asStr_str, asNil_nil]
    refine wp_newQ fun σ6 hF6 hn6 hS6 => ?_
    have hS6' := hF6.stN hS5
    have hA5 := hS5.1
    generalize hB : σ5.n = B at hS6
    refine wp_stQ (vs := ccs k n t) hS6 rfl rfl fun σ7 hF7 hn7 hS7 => ?_
    have hS7' := hF7.st hS6' (by omega)
    rw [wp_grd]
    refine ⟨by rw [Nat.ble_eq, hsz]; omega, ?_⟩
    rw [show bs [32] = mkB [32] from rfl, app_mkB, wp_grd]
    refine ⟨by rw [Nat.ble_eq, mkB_size]; simp; omega, ?_⟩
    rw [show bs [10] = mkB [10] from rfl, app_mkB, wp_call]
    refine wp_parse _ (by simp; omega) fun σ8 hF8 => ?_
    have hp2 : parseL ([32] ++ S ++ [10]) = some (k, n, t) := by
      unfold parseL
      rw [flds_round]
      exact hp
    rw [hp2]
    have hS8 := hF8.stN hS7
    have hS8' := hF8.stN hS7'
    simp only [pv, cv, asTuple_tuple, asAgg_agg, asCons_cons, asInt_int, asStr_str, asNil_nil]
    refine wp_newQ fun σ9 hF9 hn9 hS9 => ?_
    have hB8 := hS8.1
    have hA8 := hS8'.1
    generalize hC : σ8.n = C at hS9
    refine wp_stQ (vs := ccs k n t) hS9 rfl rfl fun σa hFa hna hSa => ?_
    have hSa1 := hFa.st (hF9.stN hS8) (by omega)
    have hSa2 := hFa.st (hF9.stN hS8') (by omega)
    rw [wp_join, wp_bif, if_pos (by rfl), wp_ldAll hSa1 3 rfl]
    simp only [ccs, asAgg_agg, asCons_cons, asInt_int, asStr_str, asNil_nil]
    rw [wp_ldAll hSa2 3 rfl]
    simp only [ccs, asAgg_agg, asCons_cons, asInt_int, asStr_str, asNil_nil]
    rw [wp_bif, if_pos (by simp), wp_ldAll hSa 3 rfl]
    simp only [ccs, asAgg_agg, asCons_cons, asInt_int, asStr_str, asNil_nil]
    rw [wp_ldAll hSa2 3 rfl]
    simp only [ccs, asAgg_agg, asCons_cons, asInt_int, asStr_str, asNil_nil]
    rw [wp_ret]
    have e : ((k == k) && ((n == n) && (((mkB t).toList == (mkB t).toList) && true))) = true := by simp
    rw [e]
    simp only [T4k0, sw_same, asCons_cons, asBool_bool, asNil_nil]
    rw [wp_ret]
    exact ⟨_, rfl, rfl⟩
end Go.Pg
