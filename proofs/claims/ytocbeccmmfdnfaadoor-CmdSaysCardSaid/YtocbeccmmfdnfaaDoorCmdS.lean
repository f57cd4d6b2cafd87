/- Layer 24: the document's own functions: count, Digits, cut, kinds, ParseCmd, ShowCmd. -/
import Derived.Test.YtocbeccmmfdnfaaDoorCmdR
namespace Go.Pg
open Go.Proofs Go.Utf8 Go.Lib

section
variable {σ : AHeap}
theorem ev_count (t : List UInt8) : EvF PROG ovD 18 [.string (mkB t)] σ (.int .i64 ((numL t).getD (-1))) σ := by
  refine EvF.of (T18_eq _) rfl ?_
  have hsz := mkB_size t
  rw [T18, wp_join, wp_bif]
  have bad : numL t = none → Wp PROG ovD (T18k3 (mkB t) .normal [.bool true]) σ fun _ vs σ1 => vs = [.int .i64 ((numL t).getD (-1))] ∧ σ1 = σ := by
    intro h
    simp only [T18k3, sw_same, asCons_cons, asBool_bool, asNil_nil]
    rw [wp_bif, if_pos rfl, wp_ret, h]
    exact ⟨rfl, rfl⟩
  by_cases h1 : t.length < 1
  · rw [if_neg (by simp only [beq_iff_eq]; simp; omega), wp_ret]
    exact bad (by unfold numL; rw [if_neg (by omega)])
  rw [if_pos (by simp only [beq_iff_eq]; simp; omega), wp_ret]
  by_cases h2 : t.length > 9
  · have e : decide ((((mkB t).size : Nat) : Int) > 9) = true := by simp; omega
    rw [e]
    exact bad (by unfold numL; rw [if_neg (by omega)])
  have e : decide ((((mkB t).size : Nat) : Int) > 9) = false := by simp; omega
  rw [e]
  simp only [T18k3, sw_same, asCons_cons, asBool_bool, asNil_nil]
  rw [wp_bif, if_neg (by simp)]
  refine Wp.count t.length (fun p st σ' => σ' = σ ∧ (t.take p).all isDig = true ∧ st = [.int .i64 ((p : Nat) : Int), .int .i64 (dval (t.take p) 0), .int .i64 0]) ⟨rfl, by simp, by simp [dval]⟩ ?_ ?_
  · rintro p st σ' hpl ⟨rfl, had, rfl⟩
    have hb := dval_bound (t.take p) 0 had (by decide)
    have hpw : (10 : Int) ^ (t.take p).length ≤ 10 ^ 9 := by
      have : (10 : Nat) ^ (t.take p).length ≤ 10 ^ 9 := Nat.pow_le_pow_right (by decide) (by rw [List.length_take]; omega)
      exact_mod_cast this
    have htk : t.take (p + 1) = t.take p ++ [t[p]] := List.take_succ_eq_append_getElem hpl
    have hby : byteAt (mkB t) p = ((t[p].toNat : Nat) : Int) := by rw [byteAt_mkB]; simp [List.getD, hpl]
    have ep : wi64 ((p : Int) + 1) = ((p + 1 : Nat) : Int) := by rw [wi64_in (by omega)]; omega
    simp only [T18b0, asCons_cons, asInt_int, asNil_nil]
    rw [wp_bif, if_pos (by simp; omega), wp_join, wp_join, wp_grd]
    refine ⟨by simp; omega, ?_⟩
    rw [Int.toNat_natCast, hby, wp_bif]
    have stop : isDig t[p] = false → Wp PROG ovD (T18k0 (dval (t.take p) 0) (p : Nat) (mkB t) 0 .normal [.bool true]) σ' fun e vs σ1 => Wp PROG ovD (T18k1 (p : Nat) e vs) σ1 fun e st' σ2 => match e with
        | .normal => σ2 = σ' ∧ (t.take (p + 1)).all isDig = true ∧ st' = [.int .i64 ((p + 1 : Nat) : Int), .int .i64 (dval (t.take (p + 1)) 0), .int .i64 0]
        | e => Wp PROG ovD (T18k2 e st') σ2 fun _ vs σ1 => vs = [.int .i64 ((numL t).getD (-1))] ∧ σ1 = σ' := by
      intro h
      have hno : numL t = none := by
        unfold numL
        rw [if_neg]
        intro hc
        have hall := hc.2.2
        rw [List.all_eq_true] at hall
        rw [hall _ (List.getElem_mem hpl)] at h
        cases h
      simp only [T18k0, sw_same, asCons_cons, asBool_bool, asNil_nil]
      rw [wp_bif, if_pos rfl, wp_ret]
      simp only [T18k1, sw_same, asCons_cons, asInt_int, asNil_nil]
      rw [wp_ret]
      simp only [T18k2, sw_re, sw_same, asCons_cons, asInt_int, asNil_nil]
      rw [wp_ret, hno]
      exact ⟨rfl, rfl⟩
    by_cases c1 : t[p].toNat < 48
    · rw [if_neg (by simp only [beq_iff_eq]; simp; omega), wp_ret]
      exact stop (by simp [isDig]; omega)
    · rw [if_pos (by simp only [beq_iff_eq]; simp; omega), wp_grd]
      refine ⟨by simp; omega, ?_⟩
      rw [wp_ret]
      by_cases c2 : t[p].toNat > 57
      · have e57 : decide (((t[p].toNat : Nat) : Int) > 57) = true := by simp; omega
        rw [e57]
        exact stop (by simp [isDig]; omega)
      · have e57 : decide (((t[p].toNat : Nat) : Int) > 57) = false := by simp; omega
        have hc : isDig t[p] = true := by simp [isDig]; omega
        have e8 : wu8 ((t[p].toNat : Int) - 48) = (t[p].toNat : Int) - 48 := wu8_in (by omega)
        have e64 : wi64 ((t[p].toNat : Int) - 48) = (t[p].toNat : Int) - 48 := wi64_in (by omega)
        have h10 : wi64 (10 * dval (t.take p) 0) = 10 * dval (t.take p) 0 := wi64_in (by omega)
        have h11 : wi64 (10 * dval (t.take p) 0 + ((t[p].toNat : Int) - 48)) = 10 * dval (t.take p) 0 + ((t[p].toNat : Int) - 48) := wi64_in (by omega)
        rw [e57]
        simp only [T18k0, sw_same, asCons_cons, asBool_bool, asNil_nil]
        rw [wp_bif, if_neg (by simp), wp_grd]
        refine ⟨by simp; omega, ?_⟩
        rw [Int.toNat_natCast, hby, e8, e64, h10, h11, wp_ret]
        simp only [T18k1, sw_nr, sw_same, asCons_cons, asInt_int, asNil_nil]
        rw [wp_ret, ep, htk, dval_app, List.all_append, had]
        refine ⟨rfl, by simp [hc], rfl⟩
  · rintro st σ' ⟨rfl, had, rfl⟩
    rw [List.take_length] at had ⊢
    simp only [T18b0, asCons_cons, asInt_int, asNil_nil]
    rw [wp_bif, if_neg (by simp [hsz]), wp_ret]
    simp only [T18k2, sw_same, asCons_cons, asInt_int, asNil_nil]
    rw [wp_ret]
    unfold numL
    rw [if_pos ⟨by omega, by omega, had⟩]
    exact ⟨rfl, rfl⟩

theorem wp_byteStr {x : Int} (_h0 : 0 ≤ x) (_h1 : x ≤ 255) {g : ByteArray → Pg} {Q : Post} (k : ∀ σ', Frm σ σ' NoB → Wp PROG ovD (g (mkB [UInt8.ofNat x.toNat])) σ' Q) :
    Wp PROG ovD (.act (bdSl 1 1 [.int .u8 x]) fun v7 => asSlice v7 fun p8 n9 n10 => .act (bytesToStringAct (.slice p8 n9 n10)) fun v11 => asStr v11 g) σ Q := by
  rw [wp_act, bdSl_eq]
  simp only [asSlice_slice]
  have hF := Frm.new σ [.int .u8 x] 1 NoB
  have hN := Row.new σ 1 [.int .u8 x] 1 (by decide) rfl (by intro y hy; simp at hy; subst hy; rfl)
  have hr : (σ.newBlk [.int .u8 x] 1).rdN ⟨σ.n, 0, some 1⟩ 1 = some [.int .u8 x] := hN.rdN (i := 0) (k := 1) (by simp)
  rw [wp_act]
  unfold bytesToStringAct
  simp only [hr, bytesOfCells]
  exact k _ hF

theorem wp_digits : ∀ (m n : Nat), n ≤ m → n ≤ 1000000000 → ∀ (σ : AHeap) {Q : Value → AHeap → Prop} (_ : ∀ σ', Frm σ σ' NoB → Q (.string (mkB (decDigits n))) σ'), WpF PROG ovD 24 [.int .i64 (n : Nat)] σ Q
  | m, n, hm, hn, σ, Q, hQ => by
    refine WpF.of (T24_eq _) rfl ?_
    rw [T24, wp_bif, if_neg (by simp), wp_bif]
    by_cases h : n < 10
    · rw [if_pos (by simp; omega)]
      have e1 : wi64 (48 + (n : Int)) = 48 + (n : Int) := wi64_in (by omega)
      have e2 : wu8 (48 + (n : Int)) = 48 + (n : Int) := wu8_in (by omega)
      rw [e1, e2]
      refine wp_byteStr (by omega) (by omega) fun σ1 hF1 => ?_
      rw [wp_ret]
      have := hQ σ1 hF1
      rw [decDigits, dif_pos h] at this
      rw [show (48 + (n : Int)).toNat = 48 + n by omega]
      exact ⟨_, rfl, this⟩
    · rw [if_neg (by simp; omega)]
      have e1 : Int.tdiv (n : Int) 10 = ((n / 10 : Nat) : Int) := by rw [Int.tdiv_eq_ediv_of_nonneg (by omega)]; omega
      have e2 : wi64 ((n / 10 : Nat) : Int) = ((n / 10 : Nat) : Int) := wi64_in (by omega)
      have e3 : Int.tmod (n : Int) 10 = ((n % 10 : Nat) : Int) := by rw [Int.tmod_eq_emod_of_nonneg (by omega)]; omega
      rw [e1, e2, e3, wp_call]
      cases m with
      | zero => omega
      | succ m =>
        refine wp_digits m (n / 10) (by omega) (by omega) σ fun σ1 hF1 => ?_
        rw [asStr_str, wp_call]
        refine wp_digits m (n % 10) (by omega) (by omega) σ1 fun σ2 hF2 => ?_
        have hl1 := dec_len 9 (n / 10) (by omega)
        have hl2 := dec_len 9 (n % 10) (by omega)
        rw [asStr_str, wp_grd]
        refine ⟨by rw [Nat.ble_eq, mkB_size, mkB_size]; omega, ?_⟩
        rw [app_mkB, wp_ret]
        have := hQ σ2 (hF1.seq hF2)
        rw [decDigits, dif_neg h] at this
        rw [show decDigits (n % 10) = [UInt8.ofNat (48 + n % 10)] by rw [decDigits, dif_pos (by omega)]]
        exact ⟨_, rfl, this⟩

theorem strs_snoc (ws : List (List UInt8)) (w : List UInt8) : strs (ws ++ [w]) = strs ws ++ [.string (mkB w)] := by simp [strs]

theorem wp_cut (L : List UInt8) (hl : L.length ≤ 1000) {Q : Value → AHeap → Prop}
    (hQ : ∀ σ' b p c, Frm σ σ' NoB → SlV σ' b p c (strs (flds L)) → (p ≠ none → σ.n ≤ b) → Q (.slice p (flds L).length c) σ') : WpF PROG ovD 15 [.string (mkB L)] σ Q := by
  refine WpF.of (T15_eq _) rfl ?_
  have hsz := mkB_size L
  have hflen := (flds_len _ L [] (Nat.le_refl _)).2
  have hfe : fld L [] = flds L := rfl
  rw [hfe] at hflen
  rw [T15, wp_act, rng_eq]
  simp only [asPtr_ptr, asSome_some]
  refine Wp.loop (fun m st σ' => ∃ (p : Nat) (cur : List UInt8) (ws : List (List UInt8)) (b : Nat) (q : Option Addr) (c : Nat), m = L.length - p ∧ p ≤ L.length ∧ Frm σ σ' NoB ∧ σ.n < σ'.n ∧ σ'.get σ.n = some (.iter (mkB L) p) ∧ SlV σ' b q c (strs ws) ∧ (q ≠ none → σ.n ≤ b ∧ b ≠ σ.n) ∧ cur.length ≤ p ∧
      st = [.string (mkB cur), .slice q ws.length c] ∧ flds L = ws ++ fld (L.drop p) cur) L.length
    ⟨0, [], [], 0, none, 0, rfl, by omega, Frm.rng _ _, by rw [AHeap.push_n]; omega, get_push_same _ _, .inl ⟨rfl, rfl, rfl⟩, fun h => absurd rfl h, by simp, rfl, by simp [flds]⟩ ?_
  rintro m st σ2 ⟨p, cur, ws, b, q, c, rfl, hp, hF, hn, hg, hR, hb, hcl, rfl, hfl⟩
  have hwl : ws.length ≤ 1001 := by
    have := congrArg List.length hfl
    rw [List.length_append] at this
    omega
  simp only [T15b0, asCons_cons, asStr_str, asSlice_slice, asNil_nil]
  by_cases h1 : p < L.length
  · have hne : L.drop p ≠ [] := by simp; omega
    have hw := decL_width hne
    rw [List.length_drop] at hw
    rw [wp_nxt_more hg (by omega), decL_eq L p hp, wp_join, wp_grd]
    refine ⟨by simp only [Bool.and_eq_true, decide_eq_true_eq]; omega, ?_⟩
    have hFi : Frm σ2 (σ2.put σ.n (.iter (mkB L) (p + (decL (L.drop p)).2))) (· = σ.n) := Frm.put _ _ _ hn
    have hF3 := hF.putNew (Nat.le_refl _) hn (.iter (mkB L) (p + (decL (L.drop p)).2))
    have hR3 := hR.frm hFi fun hq => (hb hq).2
    have hg3 := get_put_same σ2 σ.n (.iter (mkB L) (p + (decL (L.drop p)).2))
    have hn3 : σ.n < (σ2.put σ.n (.iter (mkB L) (p + (decL (L.drop p)).2))).n := hn
    generalize σ2.put σ.n (.iter (mkB L) (p + (decL (L.drop p)).2)) = σ3 at hFi hF3 hR3 hg3 hn3 ⊢
    rw [Int.toNat_natCast, ext_to, wp_call]
    refine wp_first hne (by simp; omega) fun σ4 hF4 => ?_
    have hR4 := hR3.frm hF4 fun _ h => h
    have hg4 : σ4.get σ.n = some (.iter (mkB L) (p + (decL (L.drop p)).2)) := by rw [hF4.get _ hn3 (fun h => h), hg3]
    have hn4 := Nat.lt_of_lt_of_le hn3 hF4.n
    have hF04 := hF3.seq hF4
    have hdd : (L.drop p).drop (decL (L.drop p)).2 = L.drop (p + (decL (L.drop p)).2) := List.drop_drop
    simp only [asTuple_tuple, asCons_cons, asInt_int, asNil_nil]
    rw [wp_call, WpF.eq (ev_class' (decL_i32 _) _), asInt_int, wp_bif]
    rw [fld_step hne, hdd] at hfl
    by_cases hm : blk (decL (L.drop p)).1 = true
    · rw [if_pos hm] at hfl
      have hm' := hm
      simp only [blk, beq_iff_eq] at hm'
      rw [if_pos (by simpa using hm'), wp_join, wp_bif, tl_mkB, tl_bs]
      by_cases hc : cur = []
      · subst hc
        rw [if_pos rfl] at hfl
        rw [if_neg (by simp), wp_ret]
        simp only [T15k0, sw_same, asCons_cons, asSlice_slice, asNil_nil]
        rw [wp_ret]
        simp only [T15k1, sw_same, asCons_cons, asStr_str, asSlice_slice, asNil_nil]
        rw [wp_ret]
        exact ⟨L.length - (p + (decL (L.drop p)).2), by omega, p + (decL (L.drop p)).2, [], ws, b, q, c, rfl, by omega, hF04, hn4, hg4, hR4, hb, by simp, rfl, hfl⟩
      · rw [if_neg hc] at hfl
        rw [if_pos (by simpa using hc)]
        refine wp_app1 hR4 (by simp [strs]) rfl (by omega) (by omega) fun σ5 b5 off s c5 hF5 hb5 hR5 => ?_
        rw [← strs_snoc] at hR5
        have hg5 : σ5.get σ.n = some (.iter (mkB L) (p + (decL (L.drop p)).2)) := by rw [hF5.get _ hn4 (fun h => (hb h.1).2 h.2.symm), hg4]
        rw [wp_ret]
        simp only [T15k0, sw_same, asCons_cons, asSlice_slice, asNil_nil]
        rw [wp_ret]
        simp only [T15k1, sw_same, asCons_cons, asStr_str, asSlice_slice, asNil_nil]
        rw [wp_ret]
        refine ⟨L.length - (p + (decL (L.drop p)).2), by omega, p + (decL (L.drop p)).2, [], ws ++ [cur], b5, some ⟨b5, off, some s⟩, c5, rfl, by omega, hF04.fresh hF5 (fun j hj e => by have := (hb e.1).1; omega), Nat.lt_of_lt_of_le hn4 hF5.n, hg5, .inr ⟨off, s, rfl, hR5⟩, fun _ => ?_, by simp, by simp; rfl, ?_⟩
        · rcases hb5 with ⟨hq, rfl⟩ | hb5
          · exact hb hq
          · omega
        · rw [hfl]
          simp [flds]
    · rw [if_neg hm] at hfl
      have hm' := hm
      simp only [blk, beq_iff_eq] at hm'
      have e1 : wi64 ((p : Int) + ((decL (L.drop p)).2 : Nat)) = ((p + (decL (L.drop p)).2 : Nat) : Int) := by rw [wi64_in (by omega)]; omega
      rw [if_neg (by simpa using hm'), e1, wp_grd]
      refine ⟨by simp only [Bool.and_eq_true, decide_eq_true_eq]; omega, ?_⟩
      have hx : (mkB L).extract p (p + (decL (L.drop p)).2) = mkB ((L.drop p).take (decL (L.drop p)).2) := by
        rw [ext_mkB, mkB_data, List.drop_take, Nat.add_sub_cancel_left]
      rw [Int.toNat_natCast, hx, wp_grd]
      refine ⟨by rw [Nat.ble_eq, mkB_size, mkB_size, List.length_take]; omega, ?_⟩
      rw [wp_ret, app_mkB]
      simp only [T15k1, sw_same, asCons_cons, asStr_str, asSlice_slice, asNil_nil]
      rw [wp_ret]
      refine ⟨L.length - (p + (decL (L.drop p)).2), by omega, p + (decL (L.drop p)).2, cur ++ (L.drop p).take (decL (L.drop p)).2, ws, b, q, c, rfl, by omega, hF04, hn4, hg4, hR4, hb, ?_, rfl, hfl⟩
      rw [List.length_append, List.length_take]
      omega
  · obtain rfl : p = L.length := by omega
    rw [List.drop_length, fld_nil] at hfl
    rw [wp_nxt_end hg (by omega), wp_ret]
    simp only [T15k3, sw_same, asCons_cons, asStr_str, asSlice_slice, asNil_nil]
    rw [wp_join, wp_bif, tl_mkB, tl_bs]
    by_cases hc : cur = []
    · rw [if_pos hc, List.append_nil] at hfl
      rw [if_neg (by simp [hc]), wp_ret]
      simp only [T15k2, sw_same, asCons_cons, asSlice_slice, asNil_nil]
      rw [wp_ret, ← hfl]
      rw [← hfl] at hR
      exact ⟨_, rfl, hQ σ2 b q c hF hR fun h => (hb h).1⟩
    · rw [if_neg hc] at hfl
      rw [if_pos (by simpa using hc)]
      refine wp_app1 hR (by simp [strs]) rfl (by omega) (by omega) fun σ5 b5 off s c5 hF5 hb5 hR5 => ?_
      rw [← strs_snoc, ← hfl] at hR5
      rw [wp_ret]
      simp only [T15k2, sw_same, asCons_cons, asSlice_slice, asNil_nil]
      rw [wp_ret]
      have e : ws.length + 1 = (flds L).length := by rw [hfl]; simp
      rw [e]
      refine ⟨_, rfl, hQ σ5 b5 (some ⟨b5, off, some s⟩) c5 (hF.fresh hF5 fun j hj e => by have := (hb e.1).1; omega) (.inr ⟨off, s, rfl, hR5⟩) fun _ => ?_⟩
      rcases hb5 with ⟨hq, rfl⟩ | hb5
      · exact (hb hq).1
      · have := hF.n
        omega

def behL : List Int := [0, 1, 1, 3, 0, 0, 0, 3, 0, 0, 1, 0, 0, 2, 0, 0, 2, 2]
theorem wp_kinds {Q : Value → AHeap → Prop} (hQ : ∀ σ' b1 b2, Frm σ σ' NoB → Row σ' b1 0 1 18 1 (strs ([] :: kwords)) → Row σ' b2 0 1 18 1 (ints .i64 behL) → Q (.tuple #[.slice (some ⟨b1, 0, some 1⟩) 18 18, .slice (some ⟨b2, 0, some 1⟩) 18 18]) σ') : WpF PROG ovD 16 [] σ Q := by
  refine WpF.of T16_eq rfl ?_
  rw [T16, wp_act, bdSl_eq]
  simp only [asSlice_slice]
  have hF1 : Frm σ (σ.newBlk (strs ([] :: kwords)) 1) NoB := Frm.new _ _ _ _
  have hR1 := Row.new σ 1 (strs ([] :: kwords)) 18 (by decide) rfl (by intro x hx; simp [strs, kwords] at hx; rcases hx with rfl | rfl | rfl | rfl | rfl | rfl | rfl | rfl | rfl | rfl | rfl | rfl | rfl | rfl | rfl | rfl | rfl | rfl <;> rfl)
  have e1 : σ.newBlk [(.string (bs [])), (.string (bs [98, 114, 101, 97, 107])), (.string (bs [100, 101, 108, 101, 116, 101])), (.string (bs [115, 116, 101, 112])), (.string (bs [110, 101, 120, 116])), (.string (bs [102, 105, 110, 105, 115, 104])), (.string (bs [99, 111, 110, 116, 105, 110, 117, 101])), (.string (bs [98, 97, 99, 107])), (.string (bs [114, 110, 101, 120, 116])), (.string (bs [114, 99, 111, 110, 116, 105, 110, 117, 101])), (.string (bs [103, 111, 116, 111])), (.string (bs [119, 104, 101, 114, 101])), (.string (bs [108, 111, 99, 97, 108, 115])), (.string (bs [112, 114, 105, 110, 116])), (.string (bs [98, 97, 99, 107, 116, 114, 97, 99, 101])), (.string (bs [111, 117, 116])), (.string (bs [119, 97, 116, 99, 104])), (.string (bs [117, 110, 119, 97, 116, 99, 104]))] 1 = σ.newBlk (strs ([] :: kwords)) 1 := rfl
  rw [e1, wp_act, bdSl_eq]
  generalize σ.newBlk (strs ([] :: kwords)) 1 = σ1 at hF1 hR1
  simp only [asSlice_slice]
  have hF2 : Frm σ1 (σ1.newBlk (ints .i64 behL) 1) NoB := Frm.new _ _ _ _
  have hR2 := Row.new σ1 1 (ints .i64 behL) 18 (by decide) rfl (ints_one _ _)
  rw [wp_ret]
  exact ⟨_, rfl, hQ _ σ.n σ1.n (hF1.seq hF2) (hF2.rowN hR1) hR2⟩
end
end Go.Pg
