/- Layer 24: blanks between words and round them change nothing: the law's tree returns true. -/
import Derived.Test.YtocbeccmmfdnfaaDoorCmdZ
namespace Go.Pg
open Go.Proofs Go.Utf8 Go.Lib

def gapL (n : Nat) : List UInt8 := 32 :: List.replicate n 9
theorem gap_ok (n : Nat) : Blanks (gapL n) := by
  intro b hb
  have : b = 32 ∨ b = 9 := by
    unfold gapL at hb
    rcases List.mem_cons.1 hb with h | h
    · exact .inl h
    · exact .inr (List.mem_replicate.1 h).2
  rcases this with rfl | rfl
  · exact ⟨by decide, blk_32⟩
  · exact ⟨by decide, by decide +kernel⟩
theorem gap_ne (n : Nat) : gapL n ≠ [] := by simp [gapL]
theorem gap_len (n : Nat) : (gapL n).length = n + 1 := by simp [gapL]
theorem flds_gaps (n : Nat) (A B : List UInt8) : flds (gapL n ++ A ++ gapL n ++ B ++ gapL n) = flds (A ++ [32] ++ B) := by
  have g := gap_ok n
  have hne := gap_ne n
  have e : gapL n ++ A ++ gapL n ++ B ++ gapL n = gapL n ++ (A ++ (gapL n ++ (B ++ (gapL n ++ [])))) := by simp
  have e2 : A ++ [32] ++ B = A ++ 32 :: B := by simp
  rw [e, flds_blanks g, flds_gap g hne, flds_gap g hne, e2, flds_app (b := 32) (by decide) blk_32]
  simp [flds, fld_nil]

theorem cmdWords_true (s0 : ByteArray) (_ : s0.size ≤ maxLen) (s1 : ByteArray) (_ : s1.size ≤ maxLen) (a2 : Int) (_ : (Lit.int .i64 a2).wf = true) : WpF PROG ovD 5 [.string s0, .string s1, .int .i64 a2] (startH (tabOld tabsD)) fun v _ => v = .bool true := by
  refine WpF.of (T5_eq _ _ _) rfl ?_
  rw [T5, wp_call]
  refine awake24.mono ?_
  rintro v σ rfl
  rw [← mkB_self s0, ← mkB_self s1]
  generalize s0.data.toList = A
  generalize s1.data.toList = B
  have hsA := mkB_size A
  have hsB := mkB_size B
  rw [asBool_bool, wp_bif, if_neg (by simp), wp_join, wp_bif]
  have out : Wp PROG ovD (T5k2 a2 (mkB A) (mkB B) .normal [.bool true]) σ fun _ vs σ' => ∃ v, vs = [v] ∧ v = .bool true := by
    simp only [T5k2, sw_same, asCons_cons, asBool_bool, asNil_nil]
    rw [wp_bif, if_pos rfl, wp_ret]
    exact ⟨_, rfl, rfl⟩
  by_cases h0 : A.length > 60
  · rw [if_neg (by simp only [beq_iff_eq]; simp; omega), wp_ret]
    exact out
  rw [if_pos (by simp only [beq_iff_eq]; simp; omega), wp_ret]
  by_cases h1 : B.length > 60 ∨ a2 < 0 ∨ a2 > 10
  · have e : ((decide ((((mkB B).size : Nat) : Int) > 60) || decide (a2 < 0)) || decide (a2 > 10)) = true := by simp only [Bool.or_eq_true, decide_eq_true_eq]; omega
    rw [e]
    exact out
  have e : ((decide ((((mkB B).size : Nat) : Int) > 60) || decide (a2 < 0)) || decide (a2 > 10)) = false := by simp only [Bool.or_eq_false_iff, decide_eq_false_iff_not]; omega
  obtain ⟨n, rfl⟩ : ∃ n : Nat, a2 = (n : Int) := ⟨a2.toNat, by omega⟩
  rw [e]
  simp only [T5k2, sw_same, asCons_cons, asBool_bool, asNil_nil]
  rw [wp_bif, if_neg (by simp)]
  refine Wp.count n (fun j st σ' => σ' = σ ∧ st = [.int .i64 ((j : Nat) : Int), .string (mkB (gapL j))]) ⟨rfl, rfl⟩ ?_ ?_
  · rintro j st σ1 hj ⟨rfl, rfl⟩
    have ej : wi64 ((j : Int) + 1) = ((j + 1 : Nat) : Int) := by rw [wi64_in (by omega)]; omega
    simp only [T5b0, asCons_cons, asInt_int, asStr_str, asNil_nil]
    rw [wp_bif, if_pos (by simp; omega), wp_join, wp_grd]
    refine ⟨by rw [Nat.ble_eq, mkB_size, gap_len]; omega, ?_⟩
    rw [wp_ret, show bs [9] = mkB [9] from rfl, app_mkB]
    simp only [T5k0, sw_same, asCons_cons, asStr_str, asNil_nil]
    rw [wp_ret, ej, show gapL j ++ [9] = gapL (j + 1) by simp [gapL, List.replicate_succ']]
    exact ⟨rfl, rfl⟩
  · rintro st σ1 ⟨rfl, rfl⟩
    have hgl := gap_len n
    have hfg := flds_gaps n A B
    generalize gapL n = G at hgl hfg ⊢
    simp only [T5b0, asCons_cons, asInt_int, asStr_str, asNil_nil]
    rw [wp_bif, if_neg (by simp), wp_ret]
    simp only [T5k1, sw_same, asCons_cons, asInt_int, asStr_str, asNil_nil]
    rw [wp_grd]
    refine ⟨by rw [Nat.ble_eq]; omega, ?_⟩
    rw [show bs [32] = mkB [32] from rfl, app_mkB, wp_grd]
    refine ⟨by rw [Nat.ble_eq, mkB_size, hsB]; simp; omega, ?_⟩
    rw [app_mkB, wp_call]
    refine wp_parse _ (by simp; omega) fun σ2 hF2 => ?_
    have hpp : parseL (G ++ A ++ G ++ B ++ G) = parseL (A ++ [32] ++ B) := by
      unfold parseL
      rw [hfg]
    have cases2 : ∀ r : Option (Int × Int × List UInt8), ∃ k n t e, pv r = .tuple #[cv k n t, .int .i64 e] := by
      intro r
      cases r with
      | none => exact ⟨0, 0, [], 13, rfl⟩
      | some r => exact ⟨r.1, r.2.1, r.2.2, 0, rfl⟩
    obtain ⟨k, m, t, er, hpv⟩ := cases2 (parseL (A ++ [32] ++ B))
    rw [hpv]
    simp only [cv, asTuple_tuple, asAgg_agg, asCons_cons, asInt_int, asStr_str, asNil_nil]
    refine wp_newQ fun σ3 hF3 hn3 hS3 => ?_
    generalize hX : σ2.n = X at hS3
    refine wp_stQ (vs := ccs k m t) hS3 rfl rfl fun σ4 hF4 hn4 hS4 => ?_
    rw [wp_grd]
    refine ⟨by rw [Nat.ble_eq, mkB_size, hsA]; omega, ?_⟩
    rw [app_mkB, wp_grd]
    refine ⟨by rw [Nat.ble_eq, mkB_size, mkB_size]; simp; omega, ?_⟩
    rw [app_mkB, wp_grd]
    refine ⟨by rw [Nat.ble_eq, mkB_size, hsB]; simp; omega, ?_⟩
    rw [app_mkB, wp_grd]
    refine ⟨by rw [Nat.ble_eq, mkB_size, mkB_size]; simp; omega, ?_⟩
    rw [app_mkB, wp_call]
    refine wp_parse _ (by simp; omega) fun σ5 hF5 => ?_
    rw [hpp, hpv]
    have hS5 := hF5.stN hS4
    have hX5 := hS5.1
    simp only [cv, asTuple_tuple, asAgg_agg, asCons_cons, asInt_int, asStr_str, asNil_nil]
    refine wp_newQ fun σ6 hF6 hn6 hS6 => ?_
    generalize hY : σ5.n = Y at hS6
    refine wp_stQ (vs := ccs k m t) hS6 rfl rfl fun σ7 hF7 hn7 hS7 => ?_
    have hS7' := hF7.st (hF6.stN hS5) (by omega)
    rw [wp_ldAll hS7' 3 rfl]
    simp only [ccs, asAgg_agg, asCons_cons, asInt_int, asStr_str, asNil_nil]
    rw [wp_ldAll hS7 3 rfl]
    simp only [ccs, asAgg_agg, asCons_cons, asInt_int, asStr_str, asNil_nil]
    rw [wp_ret]
    refine ⟨_, rfl, ?_⟩
    simp
end Go.Pg
