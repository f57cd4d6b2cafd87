/- Layer 24: Show, Forward; what the law finds at the beginning. -/
import Derived.Test.YtocbeccmmfdnfaaDoorCmdY
namespace Go.Pg
open Go.Proofs Go.Utf8 Go.Lib

theorem awake24 : WpF PROG ovD 6 [] (startH (tabOld tabsD)) fun v _ => v = .bool true := WpF.tab TAB_ok 100000 (by kernel_rfl)

section
variable {σ : AHeap}
theorem ev_format {n : Int} (h0 : -9223372036854775808 ≤ n) (h1 : n ≤ 9223372036854775807) : EvF PROG ovD 22 [.int .i64 n, .int .i64 10] σ (.string (mkB (itoa n))) σ :=
  EvF.ov (g := ovPure formatG) rfl (by unfold ovPure formatG; simp [h0, h1]; rfl)

theorem kword_len : ∀ w ∈ kwords, w.length ≤ 10 := by decide +kernel
theorem wordK_len (k : Int) : (wordK k).length ≤ 10 := by
  by_cases h : wordK k = []
  · rw [h]; simp
  · exact kword_len _ (wordK_mem h)

theorem wp_show (k n : Int) (t : List UInt8) (hn0 : -9223372036854775808 ≤ n) (hn1 : n ≤ 9223372036854775807) (hl : t.length ≤ 1000000) {Q : Value → AHeap → Prop} (hQ : ∀ σ', Frm σ σ' NoB → Q (.string (mkB (showL k n t))) σ') :
    WpF PROG ovD 9 [cv k n t] σ Q := by
  refine WpF.of (T9_eq _ _ _) rfl ?_
  have hwl := wordK_len k
  rw [T9]
  refine wp_newQ (cs := ccs k n t) fun σ1 hF1 hn1' hS1 => ?_
  have ldk := fun (σ' : AHeap) (h : St σ' σ.n (ccs k n t)) (g : Value → Pg) (Q : Post) => wp_ldF (P := PROG) (ov := ovD) h (i := 0) (v := .int .i64 k) rfl g Q
  have ldn := fun (σ' : AHeap) (h : St σ' σ.n (ccs k n t)) (g : Value → Pg) (Q : Post) => wp_ldF (P := PROG) (ov := ovD) h (i := 1) (v := .int .i64 n) rfl g Q
  have ldt := fun (σ' : AHeap) (h : St σ' σ.n (ccs k n t)) (g : Value → Pg) (Q : Post) => wp_ldF (P := PROG) (ov := ovD) h (i := 2) (v := .string (mkB t)) rfl g Q
  have hq := hQ σ1 hF1
  rw [ldk σ1 hS1, asInt_int, wp_call, WpF.eq (ev_word k), asStr_str, ldk σ1 hS1, asInt_int, wp_call, WpF.eq (ev_counted k)]
  simp only [asTuple_tuple, asCons_cons, asInt_int, asBool_bool, asNil_nil]
  rw [wp_join, wp_join, wp_bif, tl_mkB, tl_bs]
  -- the three first reasons for none
  have none1 : showL k n t = [] → Wp PROG ovD (T9k1 (isNum k) ⟨σ.n, 0, some 0⟩ (leastK k) (mkB (wordK k)) .normal [.bool true]) σ1 fun e vs σ' => Wp PROG ovD (T9k2 (mkB (wordK k)) ⟨σ.n, 0, some 0⟩ e vs) σ' fun _ vs σ' => ∃ v, vs = [v] ∧ Q v σ' := by
    intro h
    simp only [T9k1, sw_same, asCons_cons, asBool_bool, asNil_nil]
    rw [wp_bif, if_pos rfl, wp_ret]
    simp only [T9k2, sw_same, asCons_cons, asStr_str, asNil_nil]
    rw [wp_ret]
    rw [h] at hq
    exact ⟨_, rfl, hq⟩
  have go : wordK k ≠ [] → ¬ (isNam k = false ∧ t ≠ []) → ¬ (isNum k = false ∧ n ≠ 0) → Wp PROG ovD (T9k1 (isNum k) ⟨σ.n, 0, some 0⟩ (leastK k) (mkB (wordK k)) .normal [.bool false]) σ1 fun e vs σ' => Wp PROG ovD (T9k2 (mkB (wordK k)) ⟨σ.n, 0, some 0⟩ e vs) σ' fun _ vs σ' => ∃ v, vs = [v] ∧ Q v σ' := by
    intro h1 h2 h3
    have hsh : showL k n t = if isNum k = true then (if n < leastK k ∨ 999999999 < n then [] else wordK k ++ 32 :: itoa n)
        else if isNam k = true then (if nmL t = true then wordK k ++ 32 :: t else []) else wordK k := by
      unfold showL
      rw [if_neg (by simp only [not_or]; exact ⟨h1, h2, h3⟩)]
    rw [hsh] at hq
    simp only [T9k1, sw_same, asCons_cons, asBool_bool, asNil_nil]
    rw [wp_bif, if_neg (by simp), wp_join, wp_bif]
    by_cases hnum : isNum k = true
    · rw [if_pos (by simp [hnum]), ldn σ1 hS1, asInt_int, wp_bif]
      rw [if_pos hnum] at hq
      have bad : (n < leastK k ∨ 999999999 < n) → Wp PROG ovD (T9k0 (isNum k) (mkB (wordK k)) ⟨σ.n, 0, some 0⟩ .normal [.bool true]) σ1 fun e vs σ' => Wp PROG ovD (T9k2 (mkB (wordK k)) ⟨σ.n, 0, some 0⟩ e vs) σ' fun _ vs σ' => ∃ v, vs = [v] ∧ Q v σ' := by
        intro h
        simp only [T9k0, sw_same, asCons_cons, asBool_bool, asNil_nil]
        rw [wp_bif, if_pos rfl, wp_ret]
        simp only [T9k2, sw_same, asCons_cons, asStr_str, asNil_nil]
        rw [wp_ret]
        rw [if_pos h] at hq
        exact ⟨_, rfl, hq⟩
      by_cases hlt : n < leastK k
      · rw [if_neg (by simp [hlt]), wp_ret]
        exact bad (.inl hlt)
      · rw [if_pos (by simpa using hlt), ldn σ1 hS1, asInt_int, wp_ret]
        by_cases hgt : 999999999 < n
        · have e : decide (n > 999999999) = true := by simpa using hgt
          rw [e]
          exact bad (.inr hgt)
        · have e : decide (n > 999999999) = false := by simpa using hgt
          rw [if_neg (by omega)] at hq
          have hil : (itoa n).length ≤ 9 := by
            have h0 : 0 ≤ n := by
              have : 0 ≤ leastK k := by unfold leastK; split <;> decide
              omega
            obtain ⟨u, rfl⟩ : ∃ u : Nat, n = (u : Int) := ⟨n.toNat, by omega⟩
            rw [itoa_nonneg]
            exact dec_len 8 u (by omega)
          rw [e]
          simp only [T9k0, sw_same, asCons_cons, asBool_bool, asNil_nil]
          rw [wp_bif, if_neg (by simp), wp_bif, if_pos hnum, wp_grd]
          refine ⟨by rw [Nat.ble_eq, mkB_size]; omega, ?_⟩
          rw [ldn σ1 hS1, asInt_int, wp_call, WpF.eq (ev_format hn0 hn1), asStr_str, show bs [32] = mkB [32] from rfl, app_mkB, app_mkB, wp_grd]
          refine ⟨by rw [Nat.ble_eq, mkB_size, mkB_size]; simp; omega, ?_⟩
          rw [wp_ret]
          simp only [T9k2, sw_same, asCons_cons, asStr_str, asNil_nil]
          rw [wp_ret, show wordK k ++ [32] ++ itoa n = wordK k ++ 32 :: itoa n by simp]
          exact ⟨_, rfl, hq⟩
    · rw [if_neg (by simpa using hnum), wp_ret]
      rw [if_neg hnum] at hq
      simp only [T9k0, sw_same, asCons_cons, asBool_bool, asNil_nil]
      rw [wp_bif, if_neg (by simp), wp_bif, if_neg hnum, ldk σ1 hS1, asInt_int, wp_call, WpF.eq (ev_named k), asBool_bool, wp_bif]
      by_cases hnam : isNam k = true
      · rw [if_neg (by simp [hnam]), ldt σ1 hS1, asStr_str, wp_call]
        refine wp_name t hl fun σ2 hF2 => ?_
        have hq2 := hQ σ2 (hF1.seq hF2)
        rw [hsh, if_neg hnum, if_pos hnam] at hq2
        rw [asBool_bool, wp_bif]
        by_cases hm : nmL t = true
        · rw [if_pos hm] at hq2
          rw [if_neg (by simp [hm]), wp_ret]
          simp only [T9k2, sw_nr, sw_same, asCons_cons, asStr_str, asNil_nil]
          rw [wp_grd]
          refine ⟨by rw [Nat.ble_eq, mkB_size]; omega, ?_⟩
          rw [ldt σ2 (hF2.stN hS1), asStr_str, show bs [32] = mkB [32] from rfl, app_mkB, app_mkB, wp_grd]
          refine ⟨by rw [Nat.ble_eq, mkB_size, mkB_size]; simp; omega, ?_⟩
          rw [wp_ret, show wordK k ++ [32] ++ t = wordK k ++ 32 :: t by simp]
          exact ⟨_, rfl, hq2⟩
        · rw [if_neg hm] at hq2
          rw [if_pos (by simp [hm]), wp_ret]
          simp only [T9k2, sw_same, asCons_cons, asStr_str, asNil_nil]
          rw [wp_ret]
          exact ⟨_, rfl, hq2⟩
      · rw [if_neg hnam] at hq
        rw [if_pos (by simp [hnam]), wp_ret]
        simp only [T9k2, sw_same, asCons_cons, asStr_str, asNil_nil]
        rw [wp_ret]
        exact ⟨_, rfl, hq⟩
  by_cases h1 : wordK k = []
  · rw [if_neg (by simp [h1]), wp_ret]
    exact none1 (by unfold showL; rw [if_pos (.inl h1)])
  rw [if_pos (by simpa using h1), ldk σ1 hS1, asInt_int, wp_call, WpF.eq (ev_named k), asBool_bool, wp_bif]
  -- the third
  have third : ¬ (isNam k = false ∧ t ≠ []) → Wp PROG ovD (bif (!(isNum k)) == true then (.act (ld1 (aadd ⟨σ.n, 0, some 0⟩ 1)) fun v29 => asInt .i64 v29 fun i30 => .ret .normal [(.bool (i30 != 0))]) else (.ret .normal [(.bool false)])) σ1
      fun e vs σ' => Wp PROG ovD (T9k1 (isNum k) ⟨σ.n, 0, some 0⟩ (leastK k) (mkB (wordK k)) e vs) σ' fun e vs σ' => Wp PROG ovD (T9k2 (mkB (wordK k)) ⟨σ.n, 0, some 0⟩ e vs) σ' fun _ vs σ' => ∃ v, vs = [v] ∧ Q v σ' := by
    intro h2
    rw [wp_bif]
    cases hnum : isNum k with
    | true =>
      rw [if_neg (by simp), wp_ret, ← hnum]
      exact go h1 h2 (by simp [hnum])
    | false =>
      rw [if_pos (by rfl), ldn σ1 hS1, asInt_int, wp_ret, ← hnum]
      by_cases h0 : n = 0
      · have e : (n != 0) = false := by simp [h0]
        rw [e]
        exact go h1 h2 (by simp [h0])
      · have e : (n != 0) = true := by simpa using h0
        rw [e]
        exact none1 (by unfold showL; rw [if_pos (.inr (.inr ⟨hnum, h0⟩))])
  cases hnam : isNam k with
  | true =>
    rw [if_neg (by simp)]
    exact third (by simp [hnam])
  | false =>
    rw [if_pos (by rfl), ldt σ1 hS1, asStr_str, wp_bif, tl_mkB]
    by_cases ht : t = []
    · rw [if_pos (by simp [ht])]
      exact third (by simp [ht])
    · rw [if_neg (by simpa using ht), wp_ret]
      exact none1 (by unfold showL; rw [if_pos (.inr (.inl ⟨hnam, ht⟩))])

theorem wp_forward (k n : Int) (t : List UInt8) {Q : Value → AHeap → Prop} (hQ : ∀ σ', Frm σ σ' NoB → Q (.bool (decide (3 ≤ k) && decide (k ≤ 6))) σ') : WpF PROG ovD 11 [cv k n t] σ Q := by
  refine WpF.of (T11_eq _ _ _) rfl ?_
  rw [T11]
  refine wp_newQ (cs := ccs k n t) fun σ1 hF1 hn1 hS1 => ?_
  have hq := hQ σ1 hF1
  rw [wp_join, wp_ldF hS1 (i := 0) (v := .int .i64 k) rfl, asInt_int, wp_bif]
  by_cases h : 3 ≤ k
  · rw [if_pos (by simpa using h), wp_ldF hS1 (i := 0) (v := .int .i64 k) rfl, asInt_int, wp_ret]
    simp only [T11k0, sw_same, asCons_cons, asBool_bool, asNil_nil]
    rw [wp_ret]
    simp only [h, decide_true, Bool.true_and] at hq
    exact ⟨_, rfl, hq⟩
  · rw [if_neg (by simpa using h), wp_ret]
    simp only [T11k0, sw_same, asCons_cons, asBool_bool, asNil_nil]
    rw [wp_ret]
    simp only [h, decide_false, Bool.false_and] at hq
    exact ⟨_, rfl, hq⟩
end
end Go.Pg
