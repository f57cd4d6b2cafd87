/- Layer 24: names, numbers, kinds: the program's functions, each by what it computes. -/
import Derived.Test.YtocbeccmmfdnfaaDoorCmdW
namespace Go.Pg
open Go.Proofs Go.Utf8 Go.Lib

theorem byteAt_mkB (S : List UInt8) (i : Nat) : byteAt (mkB S) i = (((S.getD i 0).toNat : Nat) : Int) := rfl
theorem cntL_le (t : List UInt8) : cnt (mkB t) ≤ t.length := by
  unfold cnt
  exact cntF_le _ _ _

section
variable {σ : AHeap}
theorem wp_runesL (L : List UInt8) (hs : L.length ≤ 1000000) {Q : Value → AHeap → Prop} (hQ : ∀ σ', Frm σ σ' NoB → Q (.int .i64 (cnt (mkB L) : Nat)) σ') : WpF PROG ovD 37 [.string (mkB L)] σ Q := by
  refine WpF.of (T37_eq _) rfl ?_
  have hsz := mkB_size L
  have hcl := cntL_le L
  rw [T37, wp_act, rng_eq]
  simp only [asPtr_ptr, asSome_some]
  refine Wp.loop (fun m st σ' => ∃ p c : Nat, m = (mkB L).size - p ∧ Frm σ σ' NoB ∧ σ.n < σ'.n ∧ σ'.get σ.n = some (.iter (mkB L) p) ∧ st = [.int .i64 ((c : Nat) : Int)] ∧ c + cntF (mkB L) ((mkB L).size - p) p = cnt (mkB L) ∧ c ≤ p ∧ p ≤ (mkB L).size) (mkB L).size
    ⟨0, 0, rfl, Frm.rng _ _, by rw [AHeap.push_n]; omega, get_push_same _ _, rfl, by simp [cnt], Nat.le_refl _, Nat.zero_le _⟩ ?_
  rintro m st σ' ⟨p, c, rfl, hF, hn, hg, rfl, hc, hcp, hp⟩
  simp only [T37b0, asCons_cons, asInt_int, asNil_nil]
  by_cases h1 : p < (mkB L).size
  · have hw := width (mkB L) h1
    have e1 : wi64 ((c : Int) + 1) = ((c + 1 : Nat) : Int) := by rw [wi64_in (by omega)]; omega
    rw [wp_nxt_more hg h1, wp_join, wp_ret]
    simp only [T37k0, sw_same, asCons_cons, asInt_int, asNil_nil, wp_ret, e1]
    refine ⟨_, ?_, p + (Utf8.decode (mkB L) p).2, c + 1, rfl, hF.putNew (Nat.le_refl _) hn _, hn, get_put_same _ _ _, rfl, ?_, by omega, hw.2⟩
    · omega
    · have : cntF (mkB L) ((mkB L).size - p) p = cntF (mkB L) ((mkB L).size - (p + (Utf8.decode (mkB L) p).2)) (p + (Utf8.decode (mkB L) p).2) + 1 := by
        obtain ⟨f, hf⟩ : ∃ f, (mkB L).size - p = f + 1 := ⟨(mkB L).size - p - 1, by omega⟩
        rw [hf]
        conv => lhs; unfold cntF
        rw [if_pos h1, cntF_fuel (mkB L) f ((mkB L).size - (p + (Utf8.decode (mkB L) p).2)) _ (by omega) (by omega)]
      omega
  · obtain rfl : p = (mkB L).size := by omega
    rw [wp_nxt_end hg h1, wp_ret]
    have : cnt (mkB L) = c := by
      rw [Nat.sub_self] at hc
      simpa [cntF] using hc.symm
    simp only [T37k1, sw_same, asCons_cons, asInt_int, asNil_nil]
    rw [wp_ret, ← this]
    exact ⟨_, rfl, hQ _ hF⟩

theorem cls_two_byte {b : UInt8} {r : List UInt8} : clsF ((decL (b :: r)).1 : Nat) = 2 ↔ isDig b = true := by
  constructor
  · intro h
    have hd := cls_dig h
    obtain ⟨b', r', e, hb, _⟩ := decL_lt (L := b :: r) (by simp) (by omega)
    cases e
    simp [isDig]
    omega
  · intro h
    have hb : 48 ≤ b.toNat ∧ b.toNat ≤ 57 := by simpa [isDig] using h
    rw [decL_ascii (by omega)]
    have := dig_digit hb
    simpa [dig] using this

theorem wp_number (t : List UInt8) {Q : Value → AHeap → Prop} (hQ : ∀ σ', Frm σ σ' NoB → Q (.tuple #[.int .i64 ((numL t).getD 0), .bool (numL t).isSome]) σ') : WpF PROG ovD 28 [.string (mkB t)] σ Q := by
  refine WpF.of (T28_eq _) rfl ?_
  have hsz := mkB_size t
  rw [T28, wp_join, wp_bif]
  have bad : numL t = none → ∀ σ', Frm σ σ' NoB → Q (.tuple #[.int .i64 0, .bool false]) σ' := by
    intro h σ' hF
    have := hQ σ' hF
    rw [h] at this
    exact this
  by_cases h1 : t.length < 1
  · rw [if_neg (by simp only [beq_iff_eq]; simp; omega), wp_ret]
    simp only [T28k2, sw_same, asCons_cons, asBool_bool, asNil_nil]
    rw [wp_bif, if_pos rfl, wp_ret]
    exact ⟨_, rfl, bad (by unfold numL; rw [if_neg (by omega)]) σ (Frm.refl _ _)⟩
  rw [if_pos (by simp only [beq_iff_eq]; simp; omega), wp_ret]
  by_cases h2 : t.length > 9
  · have e : decide ((((mkB t).size : Nat) : Int) > 9) = true := by simp; omega
    rw [e]
    simp only [T28k2, sw_same, asCons_cons, asBool_bool, asNil_nil]
    rw [wp_bif, if_pos rfl, wp_ret]
    exact ⟨_, rfl, bad (by unfold numL; rw [if_neg (by omega)]) σ (Frm.refl _ _)⟩
  have e : decide ((((mkB t).size : Nat) : Int) > 9) = false := by simp; omega
  rw [e]
  simp only [T28k2, sw_same, asCons_cons, asBool_bool, asNil_nil]
  rw [wp_bif, if_neg (by simp), wp_act, rng_eq]
  simp only [asPtr_ptr, asSome_some]
  refine Wp.loop (fun m st σ' => ∃ p : Nat, m = t.length - p ∧ p ≤ t.length ∧ Frm σ σ' NoB ∧ σ.n < σ'.n ∧ σ'.get σ.n = some (.iter (mkB t) p) ∧ (t.take p).all isDig = true ∧ st = [.int .i64 (dval (t.take p) 0), .bool false, .int .i64 0]) t.length
    ⟨0, rfl, by omega, Frm.rng _ _, by rw [AHeap.push_n]; omega, get_push_same _ _, by simp, by simp [dval]⟩ ?_
  rintro m st σ' ⟨p, rfl, hp, hF, hn, hg', had, rfl⟩
  have hb := dval_bound (t.take p) 0 had (by decide)
  have hpw : (10 : Int) ^ (t.take p).length ≤ 10 ^ 9 := by
    have : (10 : Nat) ^ (t.take p).length ≤ 10 ^ 9 := Nat.pow_le_pow_right (by decide) (by rw [List.length_take]; omega)
    exact_mod_cast this
  simp only [T28b0, asCons_cons, asInt_int, asBool_bool, asNil_nil]
  by_cases hpl : p < t.length
  · obtain ⟨b, r, hbr⟩ : ∃ b r, t.drop p = b :: r := by
      cases hX : t.drop p with
      | nil => simp at hX; omega
      | cons b r => exact ⟨b, r, rfl⟩
    have htk : t.take (p + 1) = t.take p ++ [b] := by
      rw [List.take_succ_eq_append_getElem hpl]
      have := List.getElem_of_eq hbr (i := 0) (by simp; omega)
      simp at this
      rw [this]
    rw [wp_nxt_more hg' (by omega), decL_eq t p hp, hbr, wp_join, wp_call, WpF.eq (ev_class (decL_i32 _) _), asInt_int, wp_bif]
    by_cases hc : isDig b = true
    · have hbt : 48 ≤ b.toNat ∧ b.toNat ≤ 57 := by simpa [isDig] using hc
      have e32 : wi32 ((b.toNat : Int) - 48) = (b.toNat : Int) - 48 := wi32_in (by omega)
      have e64 : wi64 ((b.toNat : Int) - 48) = (b.toNat : Int) - 48 := wi64_in (by omega)
      have h10 : wi64 (10 * dval (t.take p) 0) = 10 * dval (t.take p) 0 := wi64_in (by omega)
      have h11 : wi64 (10 * dval (t.take p) 0 + ((b.toNat : Int) - 48)) = 10 * dval (t.take p) 0 + ((b.toNat : Int) - 48) := wi64_in (by omega)
      rw [if_neg (by rw [cls_two_byte.2 hc]; decide), wp_ret, decL_ascii (by omega)]
      simp only
      rw [e32, e64, h10, h11]
      simp only [T28k0, sw_nr, sw_same, asCons_cons, asInt_int, asBool_bool, asNil_nil]
      rw [wp_ret]
      refine ⟨t.length - (p + 1), by omega, p + 1, rfl, by omega, hF.putNew (Nat.le_refl _) hn _, hn, get_put_same _ _ _, ?_, ?_⟩
      · rw [htk, List.all_append, had]
        simp [hc]
      · rw [htk, dval_app]
        rfl
    · rw [if_pos (by simpa using fun h => hc (cls_two_byte.1 h)), wp_ret]
      simp only [T28k0, sw_same, asCons_cons, asInt_int, asBool_bool, asNil_nil]
      rw [wp_ret]
      simp only [T28k1, sw_re, sw_same, asCons_cons, asInt_int, asBool_bool, asNil_nil]
      rw [wp_ret]
      refine ⟨_, rfl, bad ?_ _ (hF.putNew (Nat.le_refl _) hn _)⟩
      unfold numL
      rw [if_neg]
      intro h
      have hall := h.2.2
      rw [List.all_eq_true] at hall
      exact hc (hall b (List.mem_of_mem_drop (by rw [hbr]; simp)))
  · obtain rfl : p = t.length := by omega
    rw [wp_nxt_end hg' (by omega), wp_ret]
    simp only [T28k1, sw_same, asCons_cons, asInt_int, asBool_bool, asNil_nil]
    rw [wp_ret]
    rw [List.take_length] at had ⊢
    have := hQ _ hF
    unfold numL at this
    rw [if_pos ⟨by omega, by omega, had⟩] at this
    exact ⟨_, rfl, this⟩

theorem first39 (b : UInt8) (r : List UInt8) : (decL (b :: r)).1 = 39 ↔ b.toNat = 39 := by
  constructor
  · intro h
    obtain ⟨b', r', e, hb, _⟩ := decL_lt (L := b :: r) (by simp) (by omega)
    cases e
    omega
  · intro h
    rw [decL_ascii (by omega)]
    exact h

theorem wp_name (t : List UInt8) (hl : t.length ≤ 1000000) {Q : Value → AHeap → Prop} (hQ : ∀ σ', Frm σ σ' NoB → Q (.bool (nmL t)) σ') : WpF PROG ovD 23 [.string (mkB t)] σ Q := by
  refine WpF.of (T23_eq _) rfl ?_
  have hsz := mkB_size t
  have no : nmL t = false → ∀ σ', Frm σ σ' NoB → Wp PROG ovD (T23k2 (mkB t) .normal [.bool true]) σ' fun _ vs σ' => ∃ v, vs = [v] ∧ Q v σ' := by
    intro h σ' hF
    simp only [T23k2, sw_same, asCons_cons, asBool_bool, asNil_nil]
    rw [wp_bif, if_pos rfl, wp_ret]
    have := hQ σ' hF
    rw [h] at this
    exact ⟨_, rfl, this⟩
  rw [T23, wp_join, wp_bif, tl_mkB, tl_bs]
  by_cases h0 : t = []
  · rw [if_neg (by simp [h0]), wp_ret]
    exact no (by simp [nmL, h0]) σ (Frm.refl _ _)
  have hlen := List.length_pos_iff.2 h0
  rw [if_pos (by simpa using h0), wp_call]
  refine wp_upperL h0 fun σ1 hF1 => ?_
  rw [asBool_bool, wp_bif]
  by_cases h1 : isUpperU ((decL t).1 : Nat) = true
  · rw [if_neg (by simp [h1]), wp_ret]
    exact no (by simp [nmL, h1]) σ1 hF1
  have h1' : isUpperU ((decL t).1 : Nat) = false := by simpa using h1
  rw [if_pos (by simp [h1']), wp_grd]
  refine ⟨by simp; omega, ?_⟩
  obtain ⟨b, r, hbr⟩ : ∃ b r, t = b :: r := by
    cases t with
    | nil => exact absurd rfl h0
    | cons b r => exact ⟨b, r, rfl⟩
  have hb0 : byteAt (mkB t) 0 = (b.toNat : Int) := by rw [byteAt_mkB, hbr]; rfl
  have h39 : (decL t).1 = 39 ↔ b.toNat = 39 := by rw [hbr]; exact first39 b r
  rw [hb0, wp_bif]
  by_cases h2 : b.toNat = 39
  · rw [if_neg (by simp [h2]), wp_ret]
    exact no (by simp [nmL, h39.2 h2]) σ1 hF1
  rw [if_pos (by simp; omega), wp_call]
  refine wp_runesL t hl fun σ2 hF2 => ?_
  have hF02 := hF1.seq hF2
  rw [asInt_int, wp_ret]
  by_cases h3 : ¬ cnt (mkB t) ≤ 40
  · have e : decide (((cnt (mkB t) : Nat) : Int) > 40) = true := by simp; omega
    rw [e]
    exact no (by simp [nmL, h3]) σ2 hF02
  rw [Decidable.not_not] at h3
  have e : decide (((cnt (mkB t) : Nat) : Int) > 40) = false := by simp; omega
  have hnm : nmL t = (decide (clsF ((decL t).1 : Nat) = 1) && decide (run lod t = t.length)) := by
    unfold nmL
    simp [h0, h1', h39, h2, h3]
  rw [e]
  simp only [T23k2, sw_same, asCons_cons, asBool_bool, asNil_nil]
  rw [wp_bif, if_neg (by simp), wp_act, rng_eq]
  simp only [asPtr_ptr, asSome_some]
  refine Wp.loop (fun m st σ' => ∃ p : Nat, m = t.length - p ∧ p ≤ t.length ∧ Frm σ σ' NoB ∧ σ2.n < σ'.n ∧ σ'.get σ2.n = some (.iter (mkB t) p) ∧ run lod t = p + run lod (t.drop p) ∧ (0 < p → clsF ((decL t).1 : Nat) = 1) ∧ st = [.bool false]) t.length
    ⟨0, rfl, by omega, hF02.seq (Frm.rng _ _), by rw [AHeap.push_n]; omega, get_push_same _ _, by simp, by omega, rfl⟩ ?_
  rintro m st σ' ⟨p, rfl, hp, hF, hn, hg', hr, hc0, rfl⟩
  have hF2n := hF02.n
  simp only [T23b0, asCons_cons, asBool_bool, asNil_nil]
  by_cases hpl : p < t.length
  · have hne : t.drop p ≠ [] := by simp; omega
    have hw := decL_width hne
    rw [List.length_drop] at hw
    rw [wp_nxt_more hg' (by omega), decL_eq t p hp, wp_join, wp_call, WpF.eq (ev_class (decL_i32 _) _), asInt_int, wp_bif]
    have hFp := hF.putNew hF2n hn (.iter (mkB t) (p + (decL (t.drop p)).2))
    have stop : nmL t = false → Wp PROG ovD (T23k0 .ret [.bool false]) (σ'.put σ2.n (.iter (mkB t) (p + (decL (t.drop p)).2))) fun e st' σ1 => match e with
        | .normal => ∃ m', m' < t.length - p ∧ ∃ p : Nat, m' = t.length - p ∧ p ≤ t.length ∧ Frm σ σ1 NoB ∧ σ2.n < σ1.n ∧ σ1.get σ2.n = some (.iter (mkB t) p) ∧ run lod t = p + run lod (t.drop p) ∧ (0 < p → clsF ((decL t).1 : Nat) = 1) ∧ st' = [.bool false]
        | e => Wp PROG ovD (T23k1 e st') σ1 fun _ vs σ' => ∃ v, vs = [v] ∧ Q v σ' := by
      intro h
      simp only [T23k0, sw_same, asCons_cons, asBool_bool, asNil_nil]
      rw [wp_ret]
      simp only [T23k1, sw_re, sw_same, asCons_cons, asBool_bool, asNil_nil]
      rw [wp_ret]
      have := hQ _ hFp
      rw [h] at this
      exact ⟨_, rfl, this⟩
    rw [run_step hne, List.drop_drop] at hr
    by_cases hbad : (¬ clsF ((decL (t.drop p)).1 : Nat) = 1) ∧ (p = 0 ∨ ¬ clsF ((decL (t.drop p)).1 : Nat) = 2)
    · rw [if_pos (by simpa using hbad), wp_ret]
      refine stop ?_
      rw [hnm]
      rcases hbad.2 with rfl | h2'
      · rw [List.drop_zero] at hbad
        simp [hbad.1]
      · have : ¬ lod (decL (t.drop p)).1 = true := by simp [lod, hbad.1, h2']
        rw [if_neg this] at hr
        have : ¬ run lod t = t.length := by omega
        simp [this]
    · rw [if_neg (by simpa using hbad), wp_ret]
      simp only [T23k0, sw_nr, sw_same, asCons_cons, asBool_bool, asNil_nil]
      rw [wp_ret]
      have hlod : lod (decL (t.drop p)).1 = true := by
        simp only [lod, Bool.or_eq_true, beq_iff_eq]
        by_cases c1 : clsF ((decL (t.drop p)).1 : Nat) = 1
        · exact .inl c1
        · by_cases c2 : clsF ((decL (t.drop p)).1 : Nat) = 2
          · exact .inr c2
          · exact absurd ⟨c1, .inr c2⟩ hbad
      rw [if_pos hlod] at hr
      refine ⟨t.length - (p + (decL (t.drop p)).2), by omega, p + (decL (t.drop p)).2, rfl, by omega, hFp, hn, get_put_same _ _ _, by omega, fun _ => ?_, rfl⟩
      by_cases hp0 : p = 0
      · subst hp0
        rw [List.drop_zero] at hbad
        by_cases c1 : clsF ((decL t).1 : Nat) = 1
        · exact c1
        · exact absurd ⟨c1, .inl rfl⟩ hbad
      · exact hc0 (by omega)
  · obtain rfl : p = t.length := by omega
    rw [wp_nxt_end hg' (by omega), wp_ret]
    simp only [T23k1, sw_same, asCons_cons, asBool_bool, asNil_nil]
    rw [List.drop_length, run_nil, Nat.add_zero] at hr
    have : nmL t = true := by rw [hnm]; simp [hc0 hlen, hr]
    have hq := hQ _ hF
    rw [this] at hq
    rw [wp_ret]
    exact ⟨_, rfl, hq⟩

/-! ### kinds -/
theorem k_cases (k : Int) : k = 1 ∨ k = 2 ∨ k = 3 ∨ k = 4 ∨ k = 5 ∨ k = 6 ∨ k = 7 ∨ k = 8 ∨ k = 9 ∨ k = 10 ∨ k = 11 ∨ k = 12 ∨ k = 13 ∨ k = 14 ∨ k = 15 ∨ k = 16 ∨ k = 17 ∨ ¬ (1 ≤ k ∧ k ≤ 17) := by omega
theorem wordK_no {k : Int} (h : ¬ (1 ≤ k ∧ k ≤ 17)) : wordK k = [] := by unfold wordK; rw [if_neg h]

theorem ev_other (k : Int) (h : ¬ (1 ≤ k ∧ k ≤ 9)) : EvF PROG ovD 34 [.int .i64 k] σ (.string (mkB (wordK k))) σ := by
  refine EvF.of (T34_eq _) rfl ?_
  rw [T34]
  rcases k_cases k with rfl | rfl | rfl | rfl | rfl | rfl | rfl | rfl | rfl | rfl | rfl | rfl | rfl | rfl | rfl | rfl | rfl | hk
  all_goals first
    | (exfalso; omega)
    | (simp [wp_join, wp_ret, T34k0, sw_same, asCons_cons, asStr_str, asNil_nil]; rfl)
    | skip
  have e : ∀ j : Int, 1 ≤ j → j ≤ 17 → (k == j) = false := fun j h1 h2 => by simp; omega
  simp [wp_join, wp_ret, e, T34k0, sw_nr, sw_same, asCons_cons, asStr_str, asNil_nil, wordK_no hk]
  rfl
theorem ev_word (k : Int) : EvF PROG ovD 19 [.int .i64 k] σ (.string (mkB (wordK k))) σ := by
  refine EvF.of (T19_eq _) rfl ?_
  rw [T19]
  by_cases h9 : 1 ≤ k ∧ k ≤ 9
  · have : k = 1 ∨ k = 2 ∨ k = 3 ∨ k = 4 ∨ k = 5 ∨ k = 6 ∨ k = 7 ∨ k = 8 ∨ k = 9 := by omega
    rcases this with rfl | rfl | rfl | rfl | rfl | rfl | rfl | rfl | rfl
    all_goals (simp [wp_join, wp_ret, T19k0, sw_same, asCons_cons, asStr_str, asNil_nil]; rfl)
  · have e : ∀ j : Int, 1 ≤ j → j ≤ 9 → (k == j) = false := fun j h1 h2 => by simp; omega
    simp only [wp_join, e 1 (by decide) (by decide), e 2 (by decide) (by decide), e 3 (by decide) (by decide), e 4 (by decide) (by decide), e 5 (by decide) (by decide), e 6 (by decide) (by decide), e 7 (by decide) (by decide), e 8 (by decide) (by decide), e 9 (by decide) (by decide), cond_false, wp_ret, T19k0, sw_nr, sw_same, asCons_cons, asStr_str, asNil_nil]
    rw [wp_call, WpF.eq (ev_other k h9), asStr_str, wp_ret]
    exact ⟨rfl, rfl⟩
theorem ev_counted (k : Int) : EvF PROG ovD 20 [.int .i64 k] σ (.tuple #[.int .i64 (leastK k), .bool (mayNot k), .bool (isNum k)]) σ := by
  refine EvF.of (T20_eq _) rfl ?_
  rw [T20]
  by_cases h1 : k = 1
  · subst h1; simp [wp_join, wp_ret, T20k1, T20k2, sw_same, asCons_cons, asInt_int, asBool_bool, asNil_nil, leastK, mayNot, isNum]
  by_cases h2 : k = 2
  · subst h2; simp [wp_join, wp_ret, T20k1, T20k2, sw_same, asCons_cons, asInt_int, asBool_bool, asNil_nil, leastK, mayNot, isNum]
  by_cases h3 : k = 3
  · subst h3; simp [wp_join, wp_ret, T20k0, T20k1, T20k2, sw_same, asCons_cons, asInt_int, asBool_bool, asNil_nil, leastK, mayNot, isNum]
  by_cases h4 : k = 7
  · subst h4; simp [wp_join, wp_ret, T20k0, T20k1, T20k2, sw_same, asCons_cons, asInt_int, asBool_bool, asNil_nil, leastK, mayNot, isNum]
  by_cases h5 : k = 10
  · subst h5; simp [wp_join, wp_ret, T20k0, T20k1, T20k2, sw_same, asCons_cons, asInt_int, asBool_bool, asNil_nil, leastK, mayNot, isNum]
  have e : ∀ j : Int, k ≠ j → (k == j) = false := fun j h => by simpa using h
  simp [wp_join, wp_ret, e _ h1, e _ h2, e _ h3, e _ h4, e _ h5, T20k0, T20k1, T20k2, sw_nr, sw_same, asCons_cons, asInt_int, asBool_bool, asNil_nil, leastK, mayNot, isNum, h1, h2, h3, h4]
theorem ev_named (k : Int) : EvF PROG ovD 21 [.int .i64 k] σ (.bool (isNam k)) σ := by
  refine EvF.of (T21_eq _) rfl ?_
  rw [T21, wp_ret]
  exact ⟨rfl, rfl⟩

theorem idxOf_first {t : List UInt8} : ∀ (l : List (List UInt8)) (j : Nat) (h : j < l.length), l[j] = t → (∀ i, (hi : i < j) → l[i]'(by omega) ≠ t) → l.idxOf t = j
  | [], j, h, _, _ => by simp at h
  | x :: l, 0, _, e, _ => by
    simp only [List.getElem_cons_zero] at e
    subst e
    simp
  | x :: l, j + 1, h, e, hn => by
    have h0 := hn 0 (by omega)
    simp only [List.getElem_cons_zero] at h0
    have hb : (x == t) = false := by simpa using h0
    rw [List.idxOf_cons, hb, cond_false, idxOf_first l j (by simpa using h) (by simpa using e) fun i hi => by simpa using hn (i + 1) (by omega)]

theorem wordK_at (j : Nat) (h : j < 17) : wordK ((j : Int) + 1) = kwords[j]'h := by
  unfold wordK
  rw [if_pos (by omega), show ((j : Int) + 1).toNat - 1 = j by omega, List.getD, List.getElem?_eq_getElem h, Option.getD_some]

theorem ev_find (t : List UInt8) : EvF PROG ovD 13 [.string (mkB t)] σ (.int .i64 ((findK t : Nat) : Int)) σ := by
  refine EvF.of (T13_eq _) rfl ?_
  rw [T13]
  refine Wp.count 17 (fun j st σ' => σ' = σ ∧ st = [.int .i64 ((j : Int) + 1), .int .i64 0] ∧ ∀ i, (hi : i < j) → (hj : i < 17) → kwords[i]'hj ≠ t) ⟨rfl, rfl, fun i hi => by omega⟩ ?_ ?_
  · rintro j st σ' hj ⟨rfl, rfl, hall⟩
    have ej : wi64 ((j : Int) + 1 + 1) = ((j + 1 : Nat) : Int) + 1 := by rw [wi64_in (by omega)]; omega
    simp only [T13b0, asCons_cons, asInt_int, asNil_nil]
    rw [wp_bif, if_pos (by simp; omega), wp_join, wp_call, WpF.eq (ev_word _), asStr_str, tl_mkB, tl_mkB, wordK_at j hj, wp_bif]
    by_cases h : kwords[j]'hj = t
    · have e : findK t = j + 1 := by
        unfold findK
        rw [idxOf_first kwords j hj h (fun i hi => hall i hi (by omega)), if_pos hj]
      rw [if_pos (by simpa using h), wp_ret]
      simp only [T13k0, sw_same, asCons_cons, asInt_int, asNil_nil]
      rw [wp_ret]
      simp only [T13k1, sw_re, sw_same, asCons_cons, asInt_int, asNil_nil]
      rw [wp_ret, e]
      exact ⟨by simp, rfl⟩
    · rw [if_neg (by simpa using h), wp_ret]
      simp only [T13k0, sw_nr, sw_same, asCons_cons, asInt_int, asNil_nil]
      rw [wp_ret, ej]
      refine ⟨rfl, rfl, fun i hi hj' => ?_⟩
      by_cases hij : i = j
      · subst hij; exact h
      · exact hall i (by omega) hj'
  · rintro st σ' ⟨rfl, rfl, hall⟩
    have e : findK t = 0 := by
      unfold findK
      rw [if_neg]
      intro hlt
      have h2 : kwords.idxOf t < kwords.length := hlt
      exact hall _ hlt hlt (List.getElem_idxOf h2)
    simp only [T13b0, asCons_cons, asInt_int, asNil_nil]
    rw [wp_bif, if_neg (by simp), wp_ret]
    simp only [T13k1, sw_same, asCons_cons, asInt_int, asNil_nil]
    rw [wp_ret, e]
    exact ⟨rfl, rfl⟩
end
end Go.Pg
