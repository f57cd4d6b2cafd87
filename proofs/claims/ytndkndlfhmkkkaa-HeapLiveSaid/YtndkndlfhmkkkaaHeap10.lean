/- Layer 12: the document's own heap: its things, its bytes. -/
import Derived.Test.YtndkndlfhmkkkaaHeap9
namespace Go.Pg
open Go.Proofs

theorem take_succ' {α : Type} (l : List α) (j : Nat) (h : j < l.length) : l.take (j + 1) = l.take j ++ [l[j]] := List.take_succ_eq_append_getElem h
theorem off_succ (ts : List (Int × List Int)) (j : Nat) (h : j < ts.length) : (wOf (ts.take (j + 1))).length = (wOf (ts.take j)).length + 1 + ts[j].2.length := by
  rw [take_succ' ts j h, wOf_snoc]
  simp
  omega
theorem wOf_split (ts : List (Int × List Int)) (j : Nat) (h : j < ts.length) : wOf ts = wOf (ts.take j) ++ ts[j].1 :: (ts[j].2 ++ wOf (ts.drop (j + 1))) := by
  have e : ts = ts.take j ++ ts[j] :: ts.drop (j + 1) := by rw [← List.drop_eq_getElem_cons h, List.take_append_drop]
  conv => lhs; rw [e]
  unfold wOf
  rw [List.flatMap_append, List.flatMap_cons]
  simp
theorem hOf_split (ts : List (Int × List Int)) (j : Nat) (h : j < ts.length) : hOf ts = hOf (ts.take j) ++ true :: (List.replicate ts[j].2.length false ++ hOf (ts.drop (j + 1))) := by
  have e : ts = ts.take j ++ ts[j] :: ts.drop (j + 1) := by rw [← List.drop_eq_getElem_cons h, List.take_append_drop]
  conv => lhs; rw [e]
  unfold hOf
  rw [List.flatMap_append, List.flatMap_cons]
  simp
theorem wOf_off (ts : List (Int × List Int)) (j : Nat) (h : j < ts.length) : (wOf ts).getD (wOf (ts.take j)).length 0 = ts[j].1 ∧ (wOf (ts.take j)).length < (wOf ts).length := by
  rw [wOf_split ts j h]
  simp [List.getD]
theorem hOf_off (ts : List (Int × List Int)) (j : Nat) (h : j < ts.length) : (hOf ts).getD (wOf (ts.take j)).length false = true := by
  rw [hOf_split ts j h, ← hOf_len]
  simp [List.getD]
theorem hOf_place : ∀ (ts : List (Int × List Int)) (k : Nat), (hOf ts).getD k false = true → ∃ j, ∃ _ : j < ts.length, k = (wOf (ts.take j)).length
  | [], k, h => by simp [hOf] at h
  | t :: ts, k, h => by
    cases k with
    | zero => exact ⟨0, by simp, rfl⟩
    | succ k =>
      have e2 : (hOf (t :: ts)).getD (k + 1) false = (List.replicate t.2.length false ++ hOf ts).getD k false := by rw [hOf_cons]; rfl
      rw [e2] at h
      by_cases hk : k < t.2.length
      · unfold List.getD at h
        rw [List.getElem?_append_left (by simpa using hk)] at h
        simp [hk] at h
      · have e3 : (List.replicate t.2.length false ++ hOf ts).getD k false = (hOf ts).getD (k - t.2.length) false := by
          unfold List.getD
          rw [List.getElem?_append_right (by simp; omega)]
          simp
        rw [e3] at h
        obtain ⟨j, hj, e⟩ := hOf_place ts _ h
        refine ⟨j + 1, by simp; omega, ?_⟩
        rw [List.take_succ_cons, wOf_cons]
        simp
        omega

/-- The document's heap, and blocks that it does not have. -/
def RP (σ : AHeap) (S : Nat) (Y : Nat → Prop) (room tu : Int) (W : List Int) : Prop :=
  (∀ i, Y i → i < σ.n) ∧ ∃ cw pw capw, St σ S [.int .i64 room, .slice pw W.length capw, .int .i64 tu] ∧ SlV σ cw pw capw (ints .u64 W) ∧ (pw ≠ none → cw ≠ S) ∧ cw < σ.n ∧ ∀ i, Y i → i ≠ S ∧ i ≠ cw

def ThOK (ts : List (Int × List Int)) : Prop := ∀ t ∈ ts, splitOK t.1 = true ∧ (splitN t.1).toNat = t.2.length

section
variable {σ : AHeap} {S : Nat} {Y : Nat → Prop} {room tu : Int} {W : List Int} {ts : List (Int × List Int)}

theorem RP.step {σ' : AHeap} {Y' T : Nat → Prop} (h : RP σ S Y room tu W) (k : Frm σ σ' T) (hT : ∀ i, i < σ.n → T i → Y i) (hY : ∀ i, Y' i → i < σ'.n ∧ (Y i ∨ σ.n ≤ i)) : RP σ' S Y' room tu W := by
  obtain ⟨h0, cw, pw, capw, a1, a2, a3, a4, a5⟩ := h
  have hS := a1.1
  refine ⟨fun i hi => (hY i hi).1, cw, pw, capw, k.st a1 fun ht => (a5 S (hT S hS ht)).1 rfl, a2.frm k fun _ ht => (a5 cw (hT cw a4 ht)).2 rfl, a3, Nat.lt_of_lt_of_le a4 k.n, fun i hi => ?_⟩
  rcases (hY i hi).2 with hy | hn
  · exact a5 i hy
  · omega

theorem ev_at56 (w : Int) (hw : 0 ≤ w ∧ w < 18446744073709551616) : EvF PROG ov0 56 [.int .u64 w] σ (.tuple #[.int .i64 (atI w), .bool (atB w)]) σ := by
  have hm : Int.tmod w 2 = w % 2 := Int.tmod_eq_emod_of_nonneg hw.1
  have hd : Int.tdiv w 2 = w / 2 := Int.tdiv_eq_ediv_of_nonneg hw.1
  refine EvF.of (T56_eq w) rfl ?_
  rw [T56, wp_bif, hm, hd]
  unfold atI
  by_cases h : w % 2 = 1 ∨ w > 4294967294
  · have hB : atB w = false := by unfold atB; simp; omega
    rw [if_pos (by simp; omega), wp_ret, hB]
    exact ⟨rfl, rfl⟩
  · have hB : atB w = true := by unfold atB; simp; omega
    rw [if_neg (by simp; omega), wp_ret, hB, wu64_in (by omega), wi64_in (by omega)]
    exact ⟨rfl, rfl⟩

theorem intW_half (w : Int) (hw : 0 ≤ w ∧ w < 18446744073709551616) (h1 : w % 2 = 1) (h2 : w / 2 < 4611686018427387904) : intW w = w / 2 := by
  unfold intW
  rw [if_neg (by omega)]
  omega

theorem ev_split46 (w : Int) (hw : 0 ≤ w ∧ w < 18446744073709551616) : ∃ k t, EvF PROG ov0 46 [.int .u64 w] σ (.tuple #[.int .i64 k, .int .i64 t, .int .i64 (splitN w), .bool (splitOK w)]) σ := by
  have hm : Int.tmod w 2 = w % 2 := Int.tmod_eq_emod_of_nonneg hw.1
  have hd : Int.tdiv w 2 = w / 2 := Int.tdiv_eq_ediv_of_nonneg hw.1
  have hu : wu64 (w / 2) = w / 2 := wu64_in (by omega)
  have hi : wi64 (w / 2) = w / 2 := wi64_in (by omega)
  by_cases hok : w % 2 = 1 ∧ w / 2 < 67108864 ∧ 16777216 ≤ w / 2
  · have hI := intW_half w hw hok.1 (by omega)
    have hB : splitOK w = true := by
      unfold splitOK
      rw [hI]
      simp
      omega
    have hN : splitN w = w / 2 % 65536 := by unfold splitN; rw [if_pos hB, hI]
    refine ⟨wi64 (Int.tdiv (wi64 (wu64 (w / 2))) 16777216), Int.tmod (wi64 (Int.tdiv (wi64 (wu64 (w / 2))) 65536)) 256, EvF.of (T46_eq w) rfl ?_⟩
    rw [T46, wp_join, wp_bif, hm, if_pos (by simp; omega), wp_bif, hd, hu, if_pos (by simp; omega), wp_ret]
    simp only [T46k0, sw_same, asCons_cons, asBool_bool, asNil_nil]
    rw [wp_bif, if_neg (by simp; omega), wp_ret, hd, hu, hi, hB, hN, Int.tmod_eq_emod_of_nonneg (show 0 ≤ w / 2 by omega)]
    exact ⟨rfl, rfl⟩
  · have hB : splitOK w = false := by
      rw [Bool.eq_false_iff]
      intro e
      unfold splitOK at e
      simp only [Bool.and_eq_true, decide_eq_true_eq] at e
      have e2 := e.2
      unfold intW at e2
      rw [if_neg e.1] at e2
      omega
    have hN : splitN w = 0 := by unfold splitN; rw [if_neg (by rw [hB]; simp)]
    have fin : Wp PROG ov0 (T46k0 w .normal [.bool true]) σ fun _ vs σ1 => vs = [.tuple #[.int .i64 0, .int .i64 0, .int .i64 (splitN w), .bool (splitOK w)]] ∧ σ1 = σ := by
      simp only [T46k0, sw_same, asCons_cons, asBool_bool, asNil_nil]
      rw [wp_bif, if_pos (by rfl), wp_ret, hB, hN]
      exact ⟨rfl, rfl⟩
    refine ⟨0, 0, EvF.of (T46_eq w) rfl ?_⟩
    rw [T46, wp_join, wp_bif, hm, hd, hu]
    by_cases h1 : w % 2 = 1
    · rw [if_pos (by simp; omega), wp_bif]
      by_cases h2 : w / 2 < 67108864
      · rw [if_pos (by simp; omega), wp_ret, show decide (w / 2 < 16777216) = true by simp; omega]
        exact fin
      · rw [if_neg (by simp; omega), wp_ret]
        exact fin
    · rw [if_neg (by simp; omega), wp_ret]
      exact fin

theorem ev_thing44 (h : RP σ S Y room tu W) (hW : W = wOf ts) (ht : ThOK ts) (hl : W.length ≤ 100000) (hb : ∀ x ∈ W, 0 ≤ x ∧ x < 18446744073709551616) (w : Int) (hw : 0 ≤ w ∧ w < 18446744073709551616) :
    EvF PROG ov0 44 [PV S, .int .u64 w] σ (.tuple #[.int .i64 (if plB (hOf ts) w = true then atI w else 0), .int .i64 (if plB (hOf ts) w = true then splitN (W.getD (atI w).toNat 0) else 0), .bool (plB (hOf ts) w)]) σ := by
  obtain ⟨h0, cw, pw, capw, a1, a2, a3, a4, a5⟩ := h
  refine EvF.of (T44_eq _ _) rfl ?_
  rw [T44, wp_call, WpF.eq (ev_at56 w hw)]
  simp only [asTuple_tuple, asCons_cons, asInt_int, asBool_bool, asNil_nil]
  rw [wp_bif]
  have ha := atI_nn w hw.1
  cases hB : atB w with
  | false =>
    have hp : plB (hOf ts) w = false := by unfold plB; rw [hB]; rfl
    rw [if_pos (by rfl), wp_ret, hp]
    exact ⟨rfl, rfl⟩
  | true =>
    have hpe : plB (hOf ts) w = (hOf ts).getD (atI w).toNat false := by unfold plB; rw [hB]; rfl
    rw [if_neg (by simp)]
    obtain ⟨k, hk⟩ : ∃ k : Nat, atI w = (k : Int) := ⟨(atI w).toNat, by omega⟩
    rw [hk, Int.toNat_natCast] at hpe ⊢
    have hlts : ∀ j, j ≤ ts.length → (wOf (ts.take j)).length ≤ W.length := fun j _ => by
      rw [hW]
      have e : wOf ts = wOf (ts.take j) ++ wOf (ts.drop j) := by
        unfold wOf
        rw [← List.flatMap_append, List.take_append_drop]
      rw [e]
      simp
    refine Wp.count ts.length (fun j st σ' => st = [.int .i64 (((wOf (ts.take j)).length : Nat) : Int), .bool false, .int .i64 0, .int .i64 0] ∧ σ' = σ ∧ ∀ i, i < j → (wOf (ts.take i)).length ≠ k) ⟨rfl, rfl, fun i hi => by omega⟩ ?_ ?_
    · rintro j st σ1 hj ⟨rfl, rfl, hne⟩
      obtain ⟨o1, o2⟩ := wOf_off ts j hj
      rw [← hW] at o1 o2
      obtain ⟨t1, t2⟩ := ht ts[j] (List.getElem_mem hj)
      have hsn := splitN_nn ts[j].1
      have hoff := off_succ ts j hj
      have hle := hlts (j + 1) hj
      have hwb : 0 ≤ ts[j].1 ∧ ts[j].1 < 18446744073709551616 := by
        rw [← o1]
        have e : W.getD (wOf (ts.take j)).length 0 = W[(wOf (ts.take j)).length] := by simp [List.getD, o2]
        rw [e]
        exact hb _ (List.getElem_mem o2)
      obtain ⟨kk, tt, hsp⟩ := ev_split46 (σ := σ1) ts[j].1 hwb
      simp only [T44b0, asCons_cons, asInt_int, asBool_bool, asNil_nil, asSome_some]
      rw [wp_ldF a1 rfl, asSlice_slice, wp_bif, if_pos (by simp; omega), wp_join, wp_ldF a1 rfl, asSlice_slice, wp_rdJ a2.rdB.rd o2, o1, wp_call, WpF.eq hsp]
      simp only [asTuple_tuple, asCons_cons, asInt_int, asBool_bool, asNil_nil]
      rw [wp_bif]
      by_cases he : (wOf (ts.take j)).length = k
      · rw [if_pos (by simp [he]), wp_ret]
        simp only [T44k0, sw_same, asCons_cons, asInt_int, asBool_bool, asNil_nil]
        rw [wp_ret]
        simp only [T44k1, sw_re, sw_same, asCons_cons, asInt_int, asBool_bool, asNil_nil]
        rw [wp_ret]
        have hp : plB (hOf ts) w = true := by rw [hpe, ← he]; exact hOf_off ts j hj
        rw [hp, if_pos rfl, if_pos rfl, ← he, o1]
        exact ⟨rfl, rfl⟩
      · rw [if_neg (by simp; omega), wp_ret]
        simp only [T44k0, sw_nr, sw_same, asCons_cons, asInt_int, asBool_bool, asNil_nil]
        rw [wp_ret]
        have e1 : wi64 (wi64 ((((wOf (ts.take j)).length : Nat) : Int) + splitN ts[j].1) + 1) = (((wOf (ts.take (j + 1))).length : Nat) : Int) := by
          rw [wi64_in (n := (((wOf (ts.take j)).length : Nat) : Int) + splitN ts[j].1) (by omega), wi64_in (by omega)]
          omega
        rw [e1]
        refine ⟨rfl, rfl, fun i hi => ?_⟩
        by_cases e : i = j
        · rw [e]; exact he
        · exact hne i (by omega)
    · rintro st σ1 ⟨rfl, rfl, hne⟩
      rw [List.take_length, ← hW]
      have hp : plB (hOf ts) w = false := by
        rw [hpe, Bool.eq_false_iff]
        intro e
        obtain ⟨j, hj, e⟩ := hOf_place ts k e
        exact hne j hj e.symm
      simp only [T44b0, asCons_cons, asInt_int, asBool_bool, asNil_nil, asSome_some]
      rw [wp_ldF a1 rfl, asSlice_slice, wp_bif, if_neg (by simp), wp_ret]
      simp only [T44k1, sw_same, asCons_cons, asInt_int, asBool_bool, asNil_nil]
      rw [wp_ret, hp]
      exact ⟨rfl, rfl⟩

theorem ev_word41 (h : RP σ S Y room tu W) (hW : W = wOf ts) (ht : ThOK ts) (hl : W.length ≤ 100000) (hb : ∀ x ∈ W, 0 ≤ x ∧ x < 18446744073709551616) (w : Int) (hw : 0 ≤ w ∧ w < 18446744073709551616) :
    EvF PROG ov0 41 [PV S, .int .u64 w] σ (.bool (mayB (hOf ts) w)) σ := by
  have hm : Int.tmod w 2 = w % 2 := Int.tmod_eq_emod_of_nonneg hw.1
  refine EvF.of (T41_eq _ _) rfl ?_
  rw [T41, wp_call, WpF.eq (ev_thing44 h hW ht hl hb w hw)]
  simp only [asTuple_tuple, asCons_cons, asInt_int, asBool_bool, asNil_nil]
  rw [wp_ret, hm]
  unfold mayB
  have e : (w % 2 == 1) = decide (w % 2 ≠ 0) := by
    by_cases h : w % 2 = 0
    · simp [h]
    · have : w % 2 = 1 := by omega
      simp [this]
  rw [e]
  exact ⟨rfl, rfl⟩

theorem wp_eight {b cap : Nat} {p : Option Addr} {xs : List Int} (h : SlV σ b p cap (ints .u8 xs)) (hl : xs.length ≤ 10000000) (v : Int) {Q : Value → AHeap → Prop}
    (hQ : ∀ σ' b' p' cap', Frm σ σ' (fun j => p ≠ none ∧ j = b) → ((p ≠ none ∧ b' = b) ∨ σ.n ≤ b') → SlV σ' b' p' cap' (ints .u8 (xs ++ nb v)) → Q (.slice p' (xs.length + 8) cap') σ') :
    WpF PROG ov0 50 [.slice p xs.length cap, .int .u64 v] σ Q := by
  refine WpF.of (T50_eq _ _ _ _) rfl ?_
  rw [T50]
  refine Wp.count 8 (fun j st σ' => ∃ q qc b', st = [.int .i64 (7 - (j : Int)), .slice q (xs.length + j) qc] ∧ Frm σ σ' (fun i => p ≠ none ∧ i = b) ∧ SlV σ' b' q qc (ints .u8 (xs ++ (nb v).take j)) ∧ ((q = p ∧ b' = b) ∨ (p ≠ none ∧ b' = b) ∨ σ.n ≤ b') ∧ (j ≠ 0 → (p ≠ none ∧ b' = b) ∨ σ.n ≤ b'))
    ⟨p, cap, b, rfl, Frm.refl _ _, by simpa using h, .inl ⟨rfl, rfl⟩, fun h => absurd rfl h⟩ ?_ ?_
  · rintro j st σ1 hj ⟨q, qc, b', rfl, hF1, hq, hb, _⟩
    have e1 : wu64 (wi64 (8 * (7 - (j : Int)))) = ((8 * (7 - j) : Nat) : Int) := by rw [wi64_in (by omega), wu64_in (by omega)]; omega
    have e2 : wi64 (7 - (j : Int) - 1) = 7 - ((j + 1 : Nat) : Int) := by rw [wi64_in (by omega)]; omega
    have e3 : wu8 (shrI .u64 v ((8 * (7 - j) : Nat) : Int)) = (nb v).getD j 0 := by
      rw [shrI_eq .u64 v (8 * (7 - j)) (by show _ ≤ 64; omega), wu8_eq]
      simp [nb, List.getD, hj]
    simp only [T50b0, asCons_cons, asInt_int, asSlice_slice, asNil_nil]
    rw [wp_bif, if_pos (by simp; omega), wp_join, wp_grd, e1]
    refine ⟨decide_eq_true (by omega), ?_⟩
    rw [e3]
    have hln : (xs ++ (nb v).take j).length = xs.length + j := by rw [List.length_append, List.length_take, nb_len]; omega
    refine wp_app1 hq (by rw [List.length_map, hln]) rfl (by omega) (by omega) fun σ2 b2 off s c2 hF2 hb2 hR2 => ?_
    rw [wp_ret]
    simp only [T50k0, sw_same, asCons_cons, asSlice_slice, asNil_nil]
    rw [wp_ret, e2]
    have e : ints .u8 (xs ++ (nb v).take (j + 1)) = ints .u8 (xs ++ (nb v).take j) ++ [.int .u8 ((nb v).getD j 0)] := by
      have := ints_take_succ .u8 (nb v) j (by rw [nb_len]; omega)
      unfold ints at this ⊢
      rw [List.map_append, List.map_append, this, List.append_assoc]
    have hn := hF1.n
    have hb3 : (p ≠ none ∧ b2 = b) ∨ σ.n ≤ b2 := by
      rcases hb2 with ⟨hq', rfl⟩ | hb2
      · rcases hb with ⟨rfl, rfl⟩ | hb | hb
        · exact .inl ⟨hq', rfl⟩
        · exact .inl hb
        · exact .inr hb
      · exact .inr (by omega)
    refine ⟨_, c2, b2, rfl, hF1.trans hF2 (fun _ _ h => h) fun i hi hh => ?_, ?_, .inr hb3, fun _ => hb3⟩
    · rcases hb with ⟨rfl, rfl⟩ | hb | hb
      · exact hh
      · exact ⟨hb.1, hh.2.trans hb.2⟩
      · omega
    · rw [e]
      exact .inr ⟨off, s, rfl, hR2⟩
  · rintro st σ1 ⟨q, qc, b', rfl, hF1, hq, _, hb⟩
    simp only [T50b0, asCons_cons, asInt_int, asSlice_slice, asNil_nil]
    rw [wp_bif, if_neg (by simp), wp_ret]
    simp only [T50k1, sw_same, asCons_cons, asInt_int, asSlice_slice, asNil_nil]
    rw [wp_ret]
    have e : (nb v).take 8 = nb v := by rw [← nb_len v, List.take_length]
    rw [e] at hq
    exact ⟨_, rfl, hQ σ1 b' q qc hF1 (hb (by decide)) hq⟩

theorem wp_putR (h : RP σ S Y room tu W) (hl : W.length ≤ 100000) {Q : Value → AHeap → Prop}
    (hQ : ∀ σ' b p cap, Frm σ σ' NoB → SlV σ' b p cap (ints .u8 (putB room tu W)) → σ.n ≤ b → Q (.slice p (putB room tu W).length cap) σ') : WpF PROG ov0 28 [PV S] σ Q := by
  obtain ⟨h0, cw, pw, capw, a1, a2, a3, a4, a5⟩ := h
  refine WpF.of (T28_eq _) rfl ?_
  rw [T28]
  simp only [asSome_some]
  rw [wp_ldF a1 rfl, asInt_int, wp_get, wp_call]
  refine wp_eight (xs := []) (b := 0) (.inl ⟨rfl, rfl, rfl⟩) (by simp) _ fun σ1 b1 p1 c1 hF1 hb1 hR1 => ?_
  have hF1' : Frm σ σ1 NoB := hF1.mono fun _ _ h => h.1 rfl
  have hb1' : σ.n ≤ b1 := by
    rcases hb1 with hb1 | hb1
    · exact absurd rfl hb1.1
    · exact hb1
  have hld : ld1 (aadd (PA S) 2) σ = some (.int .i64 tu, σ) := a1.ldF rfl
  rw [asSlice_slice, wp_ldF (hF1'.stN a1) rfl, wp_grd]
  refine ⟨past_ok hld, ?_⟩
  rw [asInt_int, wp_call]
  rw [List.nil_append] at hR1
  have hR1l : ([] : List Int).length + 8 = (nb (wu64 room)).length := by rw [nb_len]; rfl
  rw [hR1l]
  refine wp_eight hR1 (by rw [nb_len]; omega) _ fun σ2 b2 p2 c2 hF2 hb2 hR2 => ?_
  have hn1 := hF1.n
  have hF12 : Frm σ σ2 NoB := hF1'.fresh hF2 fun j hj h => by omega
  have hb2' : σ.n ≤ b2 := by
    rcases hb2 with hb2 | hb2 <;> omega
  rw [asSlice_slice]
  have hR2l : (nb (wu64 room)).length + 8 = (nb (wu64 room) ++ nb (wu64 tu)).length := by rw [List.length_append, nb_len, nb_len]
  rw [hR2l]
  refine Wp.count W.length (fun j st σ' => ∃ q qc b', st = [.int .i64 ((j : Nat) : Int), .slice q (nb (wu64 room) ++ nb (wu64 tu) ++ (W.take j).flatMap nb).length qc] ∧ Frm σ σ' NoB ∧ SlV σ' b' q qc (ints .u8 (nb (wu64 room) ++ nb (wu64 tu) ++ (W.take j).flatMap nb)) ∧ σ.n ≤ b')
    ⟨p2, c2, b2, by rw [List.take_zero, List.flatMap_nil, List.append_nil]; rfl, hF12, by rw [List.take_zero, List.flatMap_nil, List.append_nil]; exact hR2, hb2'⟩ ?_ ?_
  · rintro j st σ3 hj ⟨q, qc, b', rfl, hF3, hq, hb'⟩
    have ej : wi64 ((j : Int) + 1) = ((j + 1 : Nat) : Int) := by rw [wi64_in (by omega)]; omega
    have hw := (a2.frm hF3 fun _ h => h).rdB.rd
    have a1a := hF3.stN a1
    simp only [T28b0, asCons_cons, asInt_int, asSlice_slice, asNil_nil, asSome_some]
    rw [wp_ldF a1a rfl, asSlice_slice, wp_bif, if_pos (by simp; omega), wp_join, wp_ldF a1a rfl, asSlice_slice, wp_rdJ hw hj, wp_call]
    refine wp_eight hq (by rw [List.length_append, List.length_append, nb_len, nb_len, flat_nb_len, List.length_take]; omega) _ fun σ4 b4 p4 c4 hF4 hb4 hR4 => ?_
    rw [asSlice_slice, wp_ret]
    simp only [T28k0, sw_same, asCons_cons, asSlice_slice, asNil_nil]
    rw [wp_ret, ej]
    have e : (W.take (j + 1)).flatMap nb = (W.take j).flatMap nb ++ nb (W.getD j 0) := by
      rw [List.take_succ_eq_append_getElem hj, List.flatMap_append, List.flatMap_cons, List.flatMap_nil, List.append_nil, show W.getD j 0 = W[j] by simp [List.getD, hj]]
    have hn3 := hF3.n
    refine ⟨p4, c4, b4, ?_, hF3.fresh hF4 fun i hi h => by omega, ?_, by rcases hb4 with hb4 | hb4 <;> omega⟩
    · have el : ∀ (A : List Int) (x : Int), (A ++ nb x).length = A.length + 8 := fun A x => by rw [List.length_append, nb_len]
      rw [e, ← List.append_assoc, el]
    · rw [e, ← List.append_assoc]
      exact hR4
  · rintro st σ3 ⟨q, qc, b', rfl, hF3, hq, hb'⟩
    rw [List.take_length] at hq ⊢
    simp only [T28b0, asCons_cons, asInt_int, asSlice_slice, asNil_nil, asSome_some]
    rw [wp_ldF (hF3.stN a1) rfl, asSlice_slice, wp_bif, if_neg (by simp), wp_ret]
    simp only [T28k1, sw_same, asCons_cons, asInt_int, asSlice_slice, asNil_nil]
    rw [wp_ret]
    exact ⟨_, rfl, hQ σ3 b' q qc hF3 hq hb'⟩
end
end Go.Pg
