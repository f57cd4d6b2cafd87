/- Layer 2: Lex, by what it computes. -/
import Derived.Test.YtgbgkagodmhbhaaDoorLexX
import Derived.Test.YtgbgkagodmhbhaaDoorRowE
namespace Go.Pg
open Go.Proofs Go.Utf8 Go.Lib

def wc (w : Wd) : List Value := [.int .i64 w.k, .string (mkB w.t), .int .i64 w.fr, .int .i64 w.to]
def wcs (ws : List Wd) : List Value := ws.flatMap wc
theorem wcs_len (ws : List Wd) : (wcs ws).length = ws.length * 4 := by
  induction ws with
  | nil => rfl
  | cons w r ih =>
    unfold wcs at ih ⊢
    simp only [List.flatMap_cons, List.length_append, List.length_cons, ih]
    simp [wc]
    omega
theorem wcs_snoc (ws : List Wd) (w : Wd) : wcs (ws ++ [w]) = wcs ws ++ wc w := by simp [wcs]
theorem wcs_drop (ws : List Wd) (j : Nat) : (wcs ws).drop (j * 4) = wcs (ws.drop j) := by
  induction ws generalizing j with
  | nil => simp [wcs]
  | cons w r ih =>
    cases j with
    | zero => simp
    | succ j =>
      rw [List.drop_succ_cons, ← ih j]
      show (wc w ++ wcs r).drop _ = _
      rw [show (j + 1) * 4 = (wc w).length + j * 4 by simp [wc]; omega, ← List.drop_drop, List.drop_left]
theorem wcs_at (ws : List Wd) (j : Nat) (h : j < ws.length) : ((wcs ws).drop (j * 4)).take 4 = wc ws[j] := by
  rw [wcs_drop, List.drop_eq_getElem_cons h]
  rfl
theorem wcs_get (ws : List Wd) (j : Nat) (h : j < ws.length) (o : Nat) (ho : o < 4) : (wcs ws)[j * 4 + o]? = (wc ws[j])[o]? := by
  rw [← wcs_at ws j h, List.getElem?_take, if_pos ho, List.getElem?_drop]

def comb (ws : List Wd) : Except (Int × Nat) (List Wd) → Except (Int × Nat) (List Wd)
  | .ok l => .ok (ws ++ l)
  | .error e => .error e

section
variable {σ : AHeap}
theorem wp_lex (L : List UInt8) (hl : L.length ≤ 4000) {Q : Value → AHeap → Prop}
    (hok : ∀ ws, lexA L = .ok ws → ∀ σ' b p c, Frm σ σ' NoB → SlE σ' b p c 4 (wcs ws) → (p ≠ none → σ.n ≤ b) → Q (.tuple #[.slice p ws.length c, .int .i64 0, .int .i64 0]) σ')
    (herr : ∀ e a, lexA L = .error (e, a) → ∀ σ', Frm σ σ' NoB → Q (.tuple #[.slice none 0 0, .int .i64 e, .int .i64 ((a : Nat) : Int)]) σ') : WpF PROG ovD 10 [.string (mkB L)] σ Q := by
  refine WpF.of (T10_eq _) rfl ?_
  have hsz := mkB_size L
  rw [T10, wp_bif, if_neg (by simp only [decide_eq_true_eq]; omega)]
  refine Wp.loop (fun m st σ' => ∃ at' ws p c b, m = L.length - at' ∧ at' ≤ L.length ∧ ws.length ≤ 2000 ∧ st = [.int .i64 0, .slice p ws.length c, .int .i64 ((at' : Nat) : Int)] ∧ Frm σ σ' NoB ∧ SlE σ' b p c 4 (wcs ws) ∧ (p ≠ none → σ.n ≤ b) ∧ lexA L = comb ws (lexL (L.length + 1) (L.drop at') at' ws.length)) L.length
    ⟨0, [], none, 0, 0, rfl, by omega, by simp, rfl, Frm.refl _ _, .inl ⟨rfl, rfl, rfl⟩, fun h => absurd rfl h, ?_⟩ ?_
  · rw [List.drop_zero]
    unfold lexA
    simp only [List.length_nil]
    cases lexL (L.length + 1) L 0 0 <;> rfl
  rintro m st σ1 ⟨at', ws, p, c, b, rfl, ha, hws, rfl, hF1, hR1, hb1, hlx⟩
  have hs := skp_len (L.drop at')
  rw [List.length_drop] at hs
  simp only [T10b0, asCons_cons, asInt_int, asSlice_slice, asNil_nil]
  rw [wp_join, wp_grd]
  refine ⟨by simp only [Bool.and_eq_true, decide_eq_true_eq]; omega, ?_⟩
  rw [Int.toNat_natCast, ext_to, wp_call]
  refine wp_skip _ (by simp; omega) fun σ2 hF2 => ?_
  simp only [asTuple_tuple, asCons_cons, asInt_int, asBool_bool, asNil_nil]
  have e1 : wi64 ((at' : Int) + ((skp (L.drop at')).1 : Nat)) = ((at' + (skp (L.drop at')).1 : Nat) : Int) := by rw [wi64_in (by omega)]; omega
  have hF02 := hF1.seq hF2
  have hR2 := hR1.frm hF2 fun _ h => h
  rw [wp_join]
  simp only [e1]
  conv at hlx => rhs; unfold lexL
  simp only [List.drop_drop] at hlx
  generalize (skp (L.drop at')).1 = k at hs e1 hlx ⊢
  generalize (skp (L.drop at')).2 = ok at hlx ⊢
  have out : ∀ (e : Int) (a : Nat), lexA L = .error (e, a) → ∀ (σ3 : AHeap), Frm σ σ3 NoB → Wp PROG ovD (T10k3 .ret [.int .i64 e, .slice none 0 0, .int .i64 ((a : Nat) : Int)]) σ3 fun _ vs σ' => ∃ v, vs = [v] ∧ Q v σ' := by
    intro e a he σ3 hF3
    simp only [T10k3, sw_same, asCons_cons, asInt_int, asSlice_slice, asNil_nil]
    rw [wp_ret]
    exact ⟨_, rfl, herr e a he σ3 hF3⟩
  cases ok with
  | false =>
    simp only [Bool.false_eq_true, if_false, comb] at hlx
    rw [wp_bif, if_neg (by simp), wp_ret]
    simp only [T10k1, sw_same, asCons_cons, asBool_bool, asNil_nil]
    rw [wp_bif, if_neg (by simp), wp_bif, if_pos (by rfl), wp_ret, e1]
    simp only [T10k2, sw_same, asCons_cons, asInt_int, asSlice_slice, asNil_nil]
    rw [wp_ret]
    exact out 3 _ hlx σ2 hF02
  | true =>
    simp only [if_true] at hlx
    rw [wp_bif, if_pos (by rfl), wp_ret]
    by_cases h4 : at' + k = L.length
    · have hd : L.drop (at' + k) = [] := by rw [h4]; exact List.drop_length
      rw [if_pos hd] at hlx
      simp only [comb, List.append_nil] at hlx
      simp only [T10k1, sw_same, asCons_cons, asBool_bool, asNil_nil]
      rw [wp_bif, if_pos (by simp [hsz, h4]), wp_ret]
      simp only [T10k2, sw_same, asCons_cons, asInt_int, asSlice_slice, asNil_nil]
      rw [wp_ret]
      simp only [T10k3, sw_same, asCons_cons, asInt_int, asSlice_slice, asNil_nil]
      rw [wp_ret]
      exact ⟨_, rfl, hok ws hlx σ2 b p c hF02 hR2 hb1⟩
    · have hd : L.drop (at' + k) ≠ [] := by simp; omega
      rw [if_neg hd] at hlx
      simp only [T10k1, sw_same, asCons_cons, asBool_bool, asNil_nil]
      rw [wp_bif, if_neg (by simp only [beq_iff_eq]; omega), wp_bif, if_neg (by simp), e1, wp_grd]
      refine ⟨by simp only [Bool.and_eq_true, decide_eq_true_eq]; omega, ?_⟩
      rw [Int.toNat_natCast, ext_to, wp_call]
      refine wp_word hd fun σ3 hF3 => ?_
      unfold wv
      simp only [asAgg_agg, asCons_cons, asInt_int, asStr_str, asNil_nil]
      have hF03 := hF02.seq hF3
      refine wp_newQ fun σ4 hF4 hn4 hS4 => ?_
      generalize hA : σ3.n = A at hS4
      have hAn : σ.n ≤ A := by rw [← hA]; exact hF03.n
      refine wp_stQ hS4 rfl rfl fun σ5 hF5 hn5 hS5 => ?_
      have hF05 : Frm σ σ5 NoB := (hF03.seq hF4).fresh hF5 fun j hj e => by omega
      have hF25 : Frm σ2 σ5 NoB := (hF3.seq hF4).fresh hF5 fun j hj e => by have := hF3.n; omega
      have hR5 := hR2.frm hF25 fun _ h => h
      rw [wp_join, wp_ldF hS5 (v := .int .i64 (wrdL (L.drop (at' + k))).1) rfl, asInt_int, wp_bif]
      by_cases h5 : (wrdL (L.drop (at' + k))).1 = 0
      · rw [if_pos h5] at hlx
        simp only [comb] at hlx
        rw [if_pos (by simpa using h5), wp_ret]
        simp only [T10k0, sw_same, asCons_cons, asInt_int, asSlice_slice, asNil_nil]
        rw [wp_ret]
        simp only [T10k2, sw_same, asCons_cons, asInt_int, asSlice_slice, asNil_nil]
        rw [wp_ret]
        simp only [T10k3, sw_same, asCons_cons, asInt_int, asSlice_slice, asNil_nil]
        rw [wp_ret]
        exact ⟨_, rfl, herr _ _ hlx σ5 hF05⟩
      · rw [if_neg h5] at hlx
        rw [if_neg (by simpa using h5), wp_bif]
        by_cases h6 : 2000 ≤ ws.length
        · rw [if_pos h6] at hlx
          simp only [comb] at hlx
          rw [if_pos (by simp; omega), wp_ret]
          simp only [T10k0, sw_same, asCons_cons, asInt_int, asSlice_slice, asNil_nil]
          rw [wp_ret]
          simp only [T10k2, sw_same, asCons_cons, asInt_int, asSlice_slice, asNil_nil]
          rw [wp_ret]
          simp only [T10k3, sw_same, asCons_cons, asInt_int, asSlice_slice, asNil_nil]
          rw [wp_ret]
          exact ⟨_, rfl, herr _ _ hlx σ5 hF05⟩
        · rw [if_neg h6] at hlx
          have hn := (isW_of h5).ne hd
          generalize hkd : (wrdL (L.drop (at' + k))).1 = kd at hlx hS5
          generalize ht : (wrdL (L.drop (at' + k))).2 = t at hn hlx hS5
          rw [List.length_drop] at hn
          have ht1 : 1 ≤ t.length := List.length_pos_iff.2 hn.1
          have e2 : wi64 (((at' + k : Nat) : Int) + (((mkB t).size : Nat) : Int)) = ((at' + k + t.length : Nat) : Int) := by rw [mkB_size, wi64_in (by omega)]; omega
          rw [if_neg (by simp; omega), wp_ret]
          simp only [T10k0, sw_nr, sw_same, asCons_cons, asInt_int, asSlice_slice, asNil_nil]
          rw [wp_ldF hS5 (v := .string (mkB t)) rfl, asStr_str]
          refine wp_st1Q hS5 (by simp) rfl fun σ6 hF6 hn6 hS6 => ?_
          simp only [List.set_cons_succ, List.set_cons_zero] at hS6
          rw [e2]
          refine wp_st1Q hS6 (by simp) rfl fun σ7 hF7 hn7 hS7 => ?_
          simp only [List.set_cons_succ, List.set_cons_zero] at hS7
          rw [wp_ldAll hS7 4 rfl]
          simp only [asAgg_agg, asCons_cons, asInt_int, asStr_str, asNil_nil]
          have hF57 : Frm σ5 σ7 (fun j => j = A) := hF6.trans hF7 (fun _ _ h => h) (fun _ _ h => h)
          have hF07 : Frm σ σ7 NoB := hF05.fresh hF57 fun j hj e => by omega
          have hR7 := hR5.frm hF57 fun hp e => by
            have := hR2.lt hp
            have := hF3.n
            omega
          refine wp_appE (ys := wc ⟨kd, t, at' + k, at' + k + t.length⟩) hR7 (wcs_len ws) (by decide) (by decide) rfl (by intro y hy; simp [wc] at hy; rcases hy with rfl | rfl | rfl | rfl <;> rfl) (by omega) (by omega) fun σ8 b8 off8 s8 c8 hF8 hb8 hR8 => ?_
          have hS8 : St σ8 A [.int .i64 kd, .string (mkB t), .int .i64 ((at' + k : Nat) : Int), .int .i64 ((at' + k + t.length : Nat) : Int)] := hF8.st hS7 fun h => by
            have := hR2.lt h.1
            have := hF3.n
            omega
          rw [wp_ldF hS8 (v := .int .i64 ((at' + k + t.length : Nat) : Int)) rfl, asInt_int, wp_ret]
          simp only [T10k2, sw_nr, sw_same, asCons_cons, asInt_int, asSlice_slice, asNil_nil]
          rw [wp_ret]
          rw [← wcs_snoc] at hR8
          refine ⟨L.length - (at' + k + t.length), by omega, at' + k + t.length, ws ++ [⟨kd, t, at' + k, at' + k + t.length⟩], some ⟨b8, off8, some s8⟩, c8, b8, rfl, by omega, by simp; omega, ?_, hF07.fresh hF8 ?_, .inr ⟨off8, s8, rfl, hR8⟩, ?_, ?_⟩
          · simp
          · intro j hj e
            have := hb1 e.1
            omega
          · intro _
            rcases hb8 with ⟨hp, rfl⟩ | hb8
            · exact hb1 hp
            · have := hF07.n
              omega
          · rw [hlx, lexL_fuel L.length (L.length + 1) _ _ _ (by rw [List.length_drop]; omega) (by rw [List.length_drop]; omega), List.length_append, List.length_singleton]
            cases lexL (L.length + 1) (L.drop (at' + k + t.length)) (at' + k + t.length) (ws.length + 1) with
            | ok l => simp [comb]
            | error e => rfl
end
end Go.Pg
