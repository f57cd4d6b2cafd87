/- Layer 2: blanks and remarks ahead of a text and behind it change nothing but where its words stand: the law's tree returns true. -/
import Derived.Test.YtgbgkagodmhbhaaDoorLexZ
namespace Go.Pg
open Go.Proofs Go.Utf8 Go.Lib

theorem ahead_snoc (j : Nat) : remA ++ List.replicate j 32 ++ [32] = remA ++ List.replicate (j + 1) 32 := by
  rw [List.append_assoc, ← List.replicate_succ']
theorem ahead_len (j : Nat) : (remA ++ List.replicate j 32).length = 13 + j := by simp [remA]; omega

/-- Two rows of words, alike but for where they stand. -/
theorem blanks_loop (A : List UInt8) (hA : A.length ≤ 100) (ws : List Wd) (hcnt : ws.length ≤ 2000) (hpos : ∀ w ∈ ws, w.fr ≤ 5000 ∧ w.to ≤ 5000) (σ1 : AHeap) (b1 b2 : Nat) (p1 p2 : Option Addr) (c1 c2 : Nat) (hR1 : SlE σ1 b1 p1 c1 4 (wcs ws)) (hR2 : SlE σ1 b2 p2 c2 4 (wcs (ws.map (shw A.length)))) :
    Wp PROG ovD (.loop [.int .i64 0, .bool false] (T5b1 ws.length p1 p2 ws.length (mkB A)) T5k3) σ1 fun _ vs _ => ∃ v, vs = [v] ∧ v = .bool true := by
  have hsz := mkB_size A
  refine Wp.count ws.length (fun j st σ' => σ' = σ1 ∧ st = [.int .i64 ((j : Nat) : Int), .bool false]) ⟨rfl, rfl⟩ ?_ ?_
  · rintro j st σ2 hj ⟨rfl, rfl⟩
    have ej : wi64 ((j : Int) + 1) = ((j + 1 : Nat) : Int) := by rw [wi64_in (by omega)]; omega
    have hj' : j < (ws.map (shw A.length)).length := by simpa using hj
    have hw : (ws.map (shw A.length))[j] = shw A.length ws[j] := by simp
    have hp := hpos ws[j] (List.getElem_mem hj)
    have e1 : wi64 (((ws[j].fr : Nat) : Int) + (((mkB A).size : Nat) : Int)) = ((ws[j].fr + A.length : Nat) : Int) := by rw [hsz, wi64_in (by omega)]; omega
    have e2 : wi64 (((ws[j].to : Nat) : Int) + (((mkB A).size : Nat) : Int)) = ((ws[j].to + A.length : Nat) : Int) := by rw [hsz, wi64_in (by omega)]; omega
    have r1 := fun o v h1 h2 g Q => wp_wf (P := PROG) (ov := ovD) hR1 hj (n := ws.length) rfl o (v := v) h1 h2 g Q
    have r2 := fun o v h1 h2 g Q => wp_wf (P := PROG) (ov := ovD) hR2 hj' (n := ws.length) (by simp) o (v := v) h1 h2 g Q
    simp only [T5b1, asCons_cons, asInt_int, asBool_bool, asNil_nil]
    rw [wp_bif, if_pos (by simp; omega), wp_join, wp_join, r1 0 (.int .i64 ws[j].k) (by decide) rfl, asInt_int, r2 0 (.int .i64 ws[j].k) (by decide) (by rw [hw]; rfl), asInt_int, wp_bif, if_pos (by simp),
      r1 1 (.string (mkB ws[j].t)) (by decide) rfl, asStr_str, r2 1 (.string (mkB ws[j].t)) (by decide) (by rw [hw]; rfl), asStr_str, wp_bif, if_pos (by simp),
      r1 2 (.int .i64 ((ws[j].fr : Nat) : Int)) (by decide) rfl, asInt_int, r2 2 (.int .i64 ((ws[j].fr + A.length : Nat) : Int)) (by decide) (by rw [hw]; rfl), asInt_int, e1, wp_bif, if_pos (by simp),
      r1 3 (.int .i64 ((ws[j].to : Nat) : Int)) (by decide) rfl, asInt_int, r2 3 (.int .i64 ((ws[j].to + A.length : Nat) : Int)) (by decide) (by rw [hw]; rfl), asInt_int, e2, wp_ret]
    have e3 : (((ws[j].to + A.length : Nat) : Int) != ((ws[j].to + A.length : Nat) : Int)) = false := by simp
    rw [e3]
    simp only [T5k1, sw_same, asCons_cons, asBool_bool, asNil_nil]
    rw [wp_bif, if_neg (by simp), wp_ret]
    simp only [T5k2, sw_nr, sw_same, asCons_cons, asBool_bool, asNil_nil]
    rw [wp_ret, ej]
    exact ⟨rfl, rfl⟩
  · rintro st σ2 ⟨rfl, rfl⟩
    simp only [T5b1, asCons_cons, asInt_int, asBool_bool, asNil_nil]
    rw [wp_bif, if_neg (by simp), wp_ret]
    simp only [T5k3, sw_same, asCons_cons, asInt_int, asBool_bool, asNil_nil]
    rw [wp_ret]
    exact ⟨_, rfl, rfl⟩

theorem lexL_err : ∀ (f : Nat) (L : List UInt8) (at' c : Nat) (e : Int) (a : Nat), lexL f L at' c = .error (e, a) → e ≠ 0 ∧ a ≤ at' + L.length
  | 0, _, _, _, _, _, h => by cases h
  | f + 1, L, at', c, e, a, h => by
    have hs := skp_len L
    unfold lexL at h
    split at h
    · split at h
      · cases h
      · rename_i h4
        split at h
        · cases h; exact ⟨by decide, by omega⟩
        · rename_i h5
          split at h
          · cases h; exact ⟨by decide, by omega⟩
          · have hn := (isW_of h5).ne h4
            rw [List.length_drop] at hn
            split at h
            · cases h
            · rename_i hx
              cases h
              have := lexL_err f _ _ _ _ _ hx
              rw [List.length_drop, List.length_drop] at this
              exact ⟨this.1, by omega⟩
    · cases h; exact ⟨by decide, by omega⟩

theorem chain_pos {S : List UInt8} : ∀ {a : Nat} {ws : List Wd}, chain S a ws → ∀ w ∈ ws, w.fr ≤ S.length ∧ w.to ≤ S.length
  | _, [], _, w, hw => by cases hw
  | _, x :: r, ⟨_, h2, _, h4, _, _, h7⟩, w, hw => by
    rcases List.mem_cons.1 hw with rfl | hw
    · exact ⟨by omega, h4⟩
    · exact chain_pos h7 w hw

theorem lexBlanks_true (s0 : ByteArray) (_ : s0.size ≤ maxLen) (a1 : Int) (_ : (Lit.int .i64 a1).wf = true) : WpF PROG ovD 5 [.string s0, .int .i64 a1] (startH (tabOld tabsD)) fun v _ => v = .bool true := by
  refine WpF.of (T5_eq _ _) rfl ?_
  rw [T5, wp_call]
  refine awake2.mono ?_
  rintro v σ rfl
  rw [← mkB_self s0]
  generalize s0.data.toList = S
  have hsz := mkB_size S
  rw [asBool_bool, wp_bif, if_neg (by simp), wp_bif]
  by_cases h0 : ¬ (S.length ≤ 1000 ∧ 0 ≤ a1 ∧ a1 ≤ 20)
  · rw [if_pos (by simp only [Bool.or_eq_true, decide_eq_true_eq]; omega), wp_ret]
    exact ⟨_, rfl, rfl⟩
  rw [if_neg (by simp only [Bool.or_eq_true, decide_eq_true_eq]; omega)]
  obtain ⟨n, rfl⟩ : ∃ n : Nat, a1 = (n : Int) := ⟨a1.toNat, by omega⟩
  refine Wp.count n (fun j st σ' => σ' = σ ∧ st = [.int .i64 ((j : Nat) : Int), .string (mkB (remA ++ List.replicate j 32))]) ⟨rfl, by simp [remA]; rfl⟩ ?_ ?_
  · rintro j st σ1 hj ⟨rfl, rfl⟩
    have ej : wi64 ((j : Int) + 1) = ((j + 1 : Nat) : Int) := by rw [wi64_in (by omega)]; omega
    simp only [T5b0, asCons_cons, asInt_int, asStr_str, asNil_nil]
    rw [wp_bif, if_pos (by simp; omega), wp_join, wp_grd]
    refine ⟨by rw [Nat.ble_eq, mkB_size, ahead_len]; omega, ?_⟩
    rw [wp_ret, show bs [32] = mkB [32] from rfl, app_mkB, ahead_snoc]
    simp only [T5k0, sw_same, asCons_cons, asStr_str, asNil_nil]
    rw [wp_ret, ej]
    exact ⟨rfl, rfl⟩
  · rintro st σ1 ⟨rfl, rfl⟩
    have hA := ahead_len n
    have hlx := lexA_blanks n S
    rw [← hA] at hlx
    generalize remA ++ List.replicate n 32 = A at hA hlx ⊢
    simp only [T5b0, asCons_cons, asInt_int, asStr_str, asNil_nil]
    rw [wp_bif, if_neg (by simp), wp_ret]
    simp only [T5k5, sw_same, asCons_cons, asInt_int, asStr_str, asNil_nil]
    have hszA := mkB_size A
    have e1 : mkB A ++ mkB S = mkB (A ++ S) := app_mkB A S
    have e2 : mkB (A ++ S) ++ bs [32] = mkB (A ++ S ++ [32]) := app_mkB (A ++ S) [32]
    rw [wp_call]
    refine wp_lex S (by omega) (fun ws hws σ2 b2 p2 c2 hF2 hR2 hb2 => ?_) (fun e a he σ2 hF2 => ?_)
    · have hch := lexL_chain S _ 0 0 ws (by omega) (by rw [List.drop_zero]; exact hws)
      rw [hws] at hlx
      simp only [shr] at hlx
      simp only [asTuple_tuple, asCons_cons, asSlice_slice, asInt_int, asNil_nil]
      rw [wp_grd]
      refine ⟨by rw [Nat.ble_eq]; omega, ?_⟩
      rw [e1, wp_grd]
      refine ⟨by rw [Nat.ble_eq, mkB_size]; simp; omega, ?_⟩
      rw [e2, wp_call]
      refine wp_lex _ (by simp; omega) (fun ws' hws' σ3 b3 p3 c3 hF3 hR3 hb3 => ?_) (fun e a he σ3 hF3 => absurd (he.symm.trans hlx) (by simp))
      obtain rfl : ws' = ws.map (shw A.length) := by
        have := hws'.symm.trans hlx
        cases this
        rfl
      simp only [asTuple_tuple, asCons_cons, asSlice_slice, asInt_int, asNil_nil]
      rw [wp_join, wp_bif, if_pos (by rfl), wp_bif, if_pos (by simp), wp_bif, if_neg (by simp), wp_ret]
      simp only [T5k4, sw_same, asCons_cons, asBool_bool, asNil_nil]
      rw [wp_bif, if_neg (by simp), List.length_map]
      refine blanks_loop A (by omega) ws ?_ (fun w hw => ?_) σ3 b2 b3 p2 p3 c2 c3 (hR2.frm hF3 fun _ h => h) hR3
      · rcases hch.2 with h | h
        · rw [h]; simp
        · omega
      · have := chain_pos hch.1 w hw
        omega
    · have her := lexL_err _ _ _ _ _ _ he
      rw [he] at hlx
      simp only [shr] at hlx
      simp only [asTuple_tuple, asCons_cons, asSlice_slice, asInt_int, asNil_nil]
      rw [wp_grd]
      refine ⟨by rw [Nat.ble_eq]; omega, ?_⟩
      rw [e1, wp_grd]
      refine ⟨by rw [Nat.ble_eq, mkB_size]; simp; omega, ?_⟩
      rw [e2, wp_call]
      refine wp_lex _ (by simp; omega) (fun ws' hws' σ3 b3 p3 c3 hF3 hR3 hb3 => absurd (hws'.symm.trans hlx) (by simp)) (fun e' a' he' σ3 hF3 => ?_)
      have := he'.symm.trans hlx
      cases this
      simp only [asTuple_tuple, asCons_cons, asSlice_slice, asInt_int, asNil_nil]
      have e3 : wi64 (((a : Nat) : Int) + (((mkB A).size : Nat) : Int)) = ((a + A.length : Nat) : Int) := by rw [hszA, wi64_in (by omega)]; omega
      rw [wp_join, wp_bif, if_pos (by simp), wp_bif, if_pos (by rfl), wp_bif, if_pos (by simpa using her.1), wp_ret, e3]
      have e4 : (((a + A.length : Nat) : Int) != ((a + A.length : Nat) : Int)) = false := by simp
      rw [e4]
      simp only [T5k4, sw_same, asCons_cons, asBool_bool, asNil_nil]
      rw [wp_bif, if_neg (by simp)]
      exact blanks_loop A (by omega) [] (by simp) (by simp) σ3 0 0 none none 0 0 (.inl ⟨rfl, rfl, rfl⟩) (.inl ⟨rfl, rfl, rfl⟩)
end Go.Pg
