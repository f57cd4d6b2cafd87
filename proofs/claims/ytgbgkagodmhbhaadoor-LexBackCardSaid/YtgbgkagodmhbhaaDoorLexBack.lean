/- Layer 2: words are told as they stand; put together with blanks between they are parted alike: the law's tree returns true. -/
import Derived.Test.YtgbgkagodmhbhaaDoorLexZ
namespace Go.Pg
open Go.Proofs Go.Utf8 Go.Lib

theorem lexBack_true (s0 : ByteArray) (_ : s0.size ≤ maxLen) : WpF PROG ovD 4 [.string s0] (startH (tabOld tabsD)) fun v _ => v = .bool true := by
  refine WpF.of (T4_eq _) rfl ?_
  rw [T4, wp_call]
  refine awake2.mono ?_
  rintro v σ rfl
  rw [← mkB_self s0]
  generalize s0.data.toList = S
  have hsz := mkB_size S
  rw [asBool_bool, wp_bif, if_neg (by simp), wp_bif]
  by_cases h0 : (((mkB S).size : Nat) : Int) > 1200
  · rw [if_pos (by simpa using h0), wp_ret]
    exact ⟨_, rfl, rfl⟩
  rw [if_neg (by simpa using h0), wp_call]
  refine wp_lex S (by omega) (fun ws hws σ1 b1 p1 c1 hF1 hR1 hb1 => ?_) (fun e a he σ1 hF1 => ?_)
  · have hch := lexL_chain S _ 0 0 ws (by omega) (by rw [List.drop_zero]; exact hws)
    have hc := hch.1
    have hgl := chain_len (by omega) hc
    have hcnt : ws.length ≤ 2000 := by
      rcases hch.2 with h | h
      · rw [h]; simp
      · omega
    simp only [asTuple_tuple, asCons_cons, asSlice_slice, asInt_int, asNil_nil]
    rw [wp_bif, if_neg (by simp)]
    refine Wp.count ws.length (fun j st σ' => Frm σ1 σ' NoB ∧ st = [.int .i64 ((j : Nat) : Int), .string (mkB (glue (ws.take j))), .int .i64 ((pto 0 ws j : Nat) : Int), .bool false]) ⟨Frm.refl _ _, by simp [glue, pto]; rfl⟩ ?_ ?_
    · rintro j st σ2 hj ⟨hF2, rfl⟩
      have ej : wi64 ((j : Int) + 1) = ((j + 1 : Nat) : Int) := by rw [wi64_in (by omega)]; omega
      obtain ⟨g1, g2, g3, g4, g5, g6⟩ := chain_get hc j hj
      have htl := List.length_pos_iff.2 g3
      have hps := pto_succ 0 ws j hj
      have htx := text_at g2 g5
      have hgs : glue (ws.take (j + 1)) = glue (ws.take j) ++ (32 :: ws[j].t) := by rw [List.take_succ_eq_append_getElem hj, glue_snoc]
      have hgl2 : (glue (ws.take j)).length + 1 + ws[j].t.length ≤ (glue ws).length := by
        have e : glue ws = glue (ws.take (j + 1)) ++ glue (ws.drop (j + 1)) := by
          have : ∀ l m : List Wd, glue (l ++ m) = glue l ++ glue m := by
            intro l m
            induction l with
            | nil => rfl
            | cons x r ih => simp [glue, ih]
          rw [← this, List.take_append_drop]
        rw [e, hgs]
        simp
        omega
      simp only [T4b0, asCons_cons, asInt_int, asStr_str, asBool_bool, asNil_nil]
      rw [wp_bif, if_pos (by simp; omega), wp_join, wp_wa (hR1.frm hF2 fun _ h => h) hj rfl]
      simp only [wc, asAgg_agg, asCons_cons, asInt_int, asStr_str, asNil_nil]
      generalize ws[j] = w at g1 g2 g3 g4 g5 g6 htl hps htx hgs hgl2 ⊢
      obtain ⟨k, t, fr, to⟩ := w
      simp only at g1 g2 g3 g4 g5 g6 htl hps htx hgs hgl2 ⊢
      refine wp_newQ fun σ3 hF3 hn3 hS3 => ?_
      refine wp_stQ hS3 rfl rfl fun σ4 hF4 hn4 hS4 => ?_
      have hF24 : Frm σ2 σ4 NoB := hF3.fresh hF4 fun j hj e => by omega
      rw [wp_join, wp_ldF hS4 (v := .int .i64 ((fr : Nat) : Int)) rfl, asInt_int, wp_bif, if_pos (by simp; omega),
        wp_ldF hS4 (v := .int .i64 ((to : Nat) : Int)) rfl, asInt_int, wp_ldF hS4 (v := .int .i64 ((fr : Nat) : Int)) rfl, asInt_int, wp_bif, if_pos (by simp; omega),
        wp_ldF hS4 (v := .int .i64 ((to : Nat) : Int)) rfl, asInt_int, wp_bif, if_pos (by simp; omega),
        wp_ldF hS4 (v := .int .i64 ((fr : Nat) : Int)) rfl, asInt_int, wp_ldF hS4 (v := .int .i64 ((to : Nat) : Int)) rfl, asInt_int, wp_grd]
      refine ⟨by simp only [Bool.and_eq_true, decide_eq_true_eq]; omega, ?_⟩
      rw [wp_ldF hS4 (v := .string (mkB t)) rfl, asStr_str, wp_ret, Int.toNat_natCast, Int.toNat_natCast, ext_mkB, mkB_data, htx]
      simp only [T4k0, sw_same, asCons_cons, asBool_bool, asNil_nil]
      rw [wp_bif, if_neg (by simp), wp_ldF hS4 (v := .int .i64 ((to : Nat) : Int)) rfl, asInt_int, wp_grd]
      refine ⟨by rw [Nat.ble_eq, mkB_size]; omega, ?_⟩
      rw [wp_ldF hS4 (v := .string (mkB t)) rfl, asStr_str, wp_grd, show bs [32] = mkB [32] from rfl, app_mkB, app_mkB]
      refine ⟨by rw [Nat.ble_eq, mkB_size, mkB_size]; simp; omega, ?_⟩
      rw [wp_ret]
      simp only [T4k1, sw_nr, sw_same, asCons_cons, asInt_int, asStr_str, asBool_bool, asNil_nil]
      rw [wp_ret, ej, hps, hgs]
      exact ⟨hF2.seq hF24, by simp⟩
    · rintro st σ2 ⟨hF2, rfl⟩
      have hR2 := hR1.frm hF2 fun _ h => h
      simp only [T4b0, asCons_cons, asInt_int, asStr_str, asBool_bool, asNil_nil]
      rw [wp_bif, if_neg (by simp), wp_ret]
      simp only [T4k6, sw_same, asCons_cons, asInt_int, asStr_str, asBool_bool, asNil_nil]
      rw [List.take_length, wp_call]
      obtain ⟨ms, hms, hmk⟩ := lexL_glue ws ((glue ws).length + 1) 0 0 (chain_good hc) (by rcases hch.2 with h | h; exact .inl h; exact .inr h) (by omega)
      have hml : ms.length = ws.length := by simpa using congrArg List.length hmk
      refine wp_lex (glue ws) (by omega) (fun ms' hms' σ3 b3 p3 c3 hF3 hR3 hb3 => ?_) (fun e a he σ3 hF3 => ?_)
      · obtain rfl : ms' = ms := by
          have := hms'.symm.trans hms
          cases this
          rfl
        have hR23 := hR2.frm hF3 fun _ h => h
        simp only [asTuple_tuple, asCons_cons, asSlice_slice, asInt_int, asNil_nil]
        rw [wp_join, wp_bif, if_pos (by rfl), wp_ret]
        have el : (((ms'.length : Nat) : Int) != ((ws.length : Nat) : Int)) = false := by simp [hml]
        rw [el]
        simp only [T4k5, sw_same, asCons_cons, asBool_bool, asNil_nil]
        rw [wp_bif, if_neg (by simp)]
        refine Wp.count ws.length (fun j st σ' => σ' = σ3 ∧ st = [.int .i64 ((j : Nat) : Int), .bool false]) ⟨rfl, rfl⟩ ?_ ?_
        · rintro j st σ4 hj ⟨rfl, rfl⟩
          have ej : wi64 ((j : Int) + 1) = ((j + 1 : Nat) : Int) := by rw [wi64_in (by omega)]; omega
          have hj' : j < ms'.length := by omega
          have hkt : ms'[j].k = ws[j].k ∧ ms'[j].t = ws[j].t := by
            have := List.getElem_of_eq hmk (i := j) (by simpa using hj')
            simpa using this
          simp only [T4b1, asCons_cons, asInt_int, asBool_bool, asNil_nil]
          rw [wp_bif, if_pos (by simp; omega), wp_join, wp_join, wp_wf hR3 hj' rfl 0 (v := .int .i64 ms'[j].k) (by decide) rfl, asInt_int, wp_wf hR23 hj rfl 0 (v := .int .i64 ws[j].k) (by decide) rfl, asInt_int, wp_bif, if_pos (by simp [hkt.1]),
            wp_wf hR3 hj' rfl 1 (v := .string (mkB ms'[j].t)) (by decide) rfl, asStr_str, wp_wf hR23 hj rfl 1 (v := .string (mkB ws[j].t)) (by decide) rfl, asStr_str, wp_ret, hkt.2]
          simp only [T4k2, sw_same, asCons_cons, asBool_bool, asNil_nil]
          rw [wp_bif, if_neg (by simp), wp_ret]
          simp only [T4k3, sw_nr, sw_same, asCons_cons, asBool_bool, asNil_nil]
          rw [wp_ret, ej]
          exact ⟨rfl, rfl⟩
        · rintro st σ4 ⟨rfl, rfl⟩
          simp only [T4b1, asCons_cons, asInt_int, asBool_bool, asNil_nil]
          rw [wp_bif, if_neg (by simp), wp_ret]
          simp only [T4k4, sw_same, asCons_cons, asInt_int, asBool_bool, asNil_nil]
          rw [wp_ret]
          exact ⟨_, rfl, rfl⟩
      · exact absurd (he.symm.trans hms) (by simp)
  · have he' : e ≠ 0 := by
      have : ∀ (f : Nat) (L : List UInt8) (at' c : Nat), lexL f L at' c = .error (e, a) → e ≠ 0 := by
        intro f
        induction f with
        | zero => intro L at' c h; cases h
        | succ f ih =>
          intro L at' c h
          unfold lexL at h
          split at h
          · split at h
            · cases h
            · split at h
              · cases h; decide
              · split at h
                · cases h; decide
                · split at h
                  · cases h
                  · rename_i hx
                    cases h
                    exact ih _ _ _ hx
          · cases h; decide
      exact this _ _ _ _ he
    simp only [asTuple_tuple, asCons_cons, asSlice_slice, asInt_int, asNil_nil]
    rw [wp_bif, if_pos (by simpa using he'), wp_ret]
    exact ⟨_, rfl, rfl⟩
end Go.Pg
