/- Layer 12: the document's own Load. -/
import Derived.Test.YtndkndlfhmkkkaaHeap10
namespace Go.Pg
open Go.Proofs

/-- What is read after so many bytes. -/
def La (b : List Int) (m i : Nat) : List Int := (List.range m).map fun k => rdNum ((b.drop (8 * k)).take (min 8 (i - 8 * k)))
theorem La_len (b : List Int) (m i : Nat) : (La b m i).length = m := by simp [La]
theorem La_get (b : List Int) (m i k : Nat) (h : k < m) : (La b m i).getD k 0 = rdNum ((b.drop (8 * k)).take (min 8 (i - 8 * k))) := by simp [La, List.getD, h]
theorem La_app (b : List Int) (i : Nat) (h : i % 8 = 0) : La b ((i + 7) / 8) i ++ [0] = La b (i / 8 + 1) i := by
  have e : (i + 7) / 8 = i / 8 := by omega
  rw [e]
  unfold La
  rw [List.range_succ, List.map_append, List.map_cons, List.map_nil, show min 8 (i - 8 * (i / 8)) = 0 by omega, List.take_zero]
  rfl
theorem La_set (b : List Int) (i : Nat) (hi : i < b.length) : (La b (i / 8 + 1) i).set (i / 8) ((La b (i / 8 + 1) i).getD (i / 8) 0 * 256 + b.getD i 0) = La b (i / 8 + 1) (i + 1) := by
  rw [La_get b _ i (i / 8) (by omega)]
  apply List.ext_getElem
  · simp [La_len]
  · intro k h1 h2
    have hk : k < i / 8 + 1 := by simpa [La_len] using h2
    rw [List.getElem_set]
    have g : ∀ i, (La b (i / 8 + 1) i).length = i / 8 + 1 := fun i => La_len _ _ _
    by_cases e : i / 8 = k
    · rw [if_pos e]
      subst e
      have hj : i - 8 * (i / 8) < (b.drop (8 * (i / 8))).length := by simp; omega
      have hs := rdNum_succ (b.drop (8 * (i / 8))) (i - 8 * (i / 8)) hj
      rw [show min 8 (i - 8 * (i / 8)) = i - 8 * (i / 8) by omega]
      have e2 : (La b (i / 8 + 1) (i + 1))[i / 8] = rdNum ((b.drop (8 * (i / 8))).take (i - 8 * (i / 8) + 1)) := by
        simp only [La, List.getElem_map, List.getElem_range]
        rw [show min 8 (i + 1 - 8 * (i / 8)) = i - 8 * (i / 8) + 1 by omega]
      rw [e2, hs]
      have e3 : b.getD i 0 = (b.drop (8 * (i / 8)))[i - 8 * (i / 8)] := by
        rw [List.getElem_drop]
        simp only [show 8 * (i / 8) + (i - 8 * (i / 8)) = i by omega]
        simp [List.getD, hi]
      rw [e3]
    · rw [if_neg e]
      simp only [La, List.getElem_map, List.getElem_range]
      rw [show min 8 (i - 8 * k) = min 8 (i + 1 - 8 * k) by omega]
theorem La_drop (b : List Int) (K : Nat) (h : b.length = 16 + 8 * K) : (La b (K + 2) b.length).drop 2 = nums K (b.drop 16) := by
  apply List.ext_getElem
  · rw [List.length_drop, La_len, nums_len]
    omega
  · intro k h1 h2
    have hk : k < K := by rw [nums_len] at h2; exact h2
    have e : (nums K (b.drop 16))[k] = (nums K (b.drop 16)).getD k 0 := by simp [List.getD, h2]
    rw [e, nums_get K _ k hk, List.getElem_drop, List.drop_drop]
    simp only [La, List.getElem_map, List.getElem_range]
    rw [show 8 * (2 + k) = 16 + 8 * k by omega, show min 8 (b.length - (16 + 8 * k)) = 8 by omega]

theorem may_back (H : List Bool) (ts : List (Int × List Int)) (hm : ∀ i (h : i < (wOf ts).length), (hOf ts).getD i false = true ∨ mayB H (wOf ts)[i] = true) (j : Nat) (hj : j < ts.length) (k : Nat) (hk : k < ts[j].2.length) : (wOf ts).getD ((wOf (ts.take j)).length + (k + 1)) 0 = ts[j].2[k] ∧ (wOf (ts.take j)).length + (k + 1) < (wOf ts).length ∧ mayB H ts[j].2[k] = true := by
  have e1 := wOf_split ts j hj
  have e2 := hOf_split ts j hj
  have hlt : (wOf (ts.take j)).length + (k + 1) < (wOf ts).length := by
    rw [e1]
    simp
    omega
  have g1 : (wOf ts)[(wOf (ts.take j)).length + (k + 1)]? = some ts[j].2[k] := by
    rw [e1, List.getElem?_append_right (by omega), show (wOf (ts.take j)).length + (k + 1) - (wOf (ts.take j)).length = k + 1 by omega, List.getElem?_cons_succ, List.getElem?_append_left hk]
    exact List.getElem?_eq_getElem hk
  have g2 : (hOf ts).getD ((wOf (ts.take j)).length + (k + 1)) false = false := by
    unfold List.getD
    rw [e2, List.getElem?_append_right (by rw [hOf_len]; omega), hOf_len, show (wOf (ts.take j)).length + (k + 1) - (wOf (ts.take j)).length = k + 1 by omega, List.getElem?_cons_succ, List.getElem?_append_left (by simpa using hk)]
    simp [hk]
  refine ⟨by unfold List.getD; rw [g1]; rfl, hlt, ?_⟩
  have h3 := hm _ hlt
  rw [List.getElem?_eq_getElem hlt] at g1
  rw [g2, Option.some.inj g1] at h3
  rcases h3 with h3 | h3
  · cases h3
  · exact h3

section
variable {σ : AHeap} {S : Nat} {Y : Nat → Prop} {room tu : Int} {W : List Int} {ts : List (Int × List Int)}

theorem RP.ldW (h : RP σ S Y room tu W) : ∃ cw pw capw, St σ S [.int .i64 room, .slice pw W.length capw, .int .i64 tu] ∧ SlV σ cw pw capw (ints .u64 W) := by
  obtain ⟨h0, cw, pw, capw, a1, a2, _⟩ := h
  exact ⟨cw, pw, capw, a1, a2⟩

/-- The second loop: what may stand. -/
theorem wp_loopB (h : RP σ S Y room tu W) (hW : W = wOf ts) (ht : ThOK ts) (hl : W.length ≤ 100000) (hb : ∀ x ∈ W, 0 ≤ x ∧ x < 18446744073709551616) {Q : Value → AHeap → Prop}
    (hno : ¬ allMay (hOf ts) W → Q (.tuple #[.pointer none, .bool false]) σ) (hok : allMay (hOf ts) W → Q (.tuple #[PV S, .bool true]) σ) :
    Wp PROG ov0 (.loop [.int .i64 0, .bool false, .pointer none] (T30b3 (PA S)) (T30k7 (PA S))) σ fun _ vs σ' => ∃ v, vs = [v] ∧ Q v σ' := by
  obtain ⟨cw, pw, capw, a1, a2⟩ := h.ldW
  have hlts : ∀ j, j ≤ ts.length → (wOf (ts.take j)).length ≤ W.length := fun j _ => by
    rw [hW]
    have e : wOf ts = wOf (ts.take j) ++ wOf (ts.drop j) := by
      unfold wOf
      rw [← List.flatMap_append, List.take_append_drop]
    rw [e]
    simp
  refine Wp.count ts.length (fun j st σ' => st = [.int .i64 (((wOf (ts.take j)).length : Nat) : Int), .bool false, .pointer none] ∧ σ = σ' ∧ ∀ i (hi : i < ts.length), i < j → ∀ w ∈ ts[i].2, mayB (hOf ts) w = true) ⟨rfl, rfl, fun i _ hi => by omega⟩ ?_ ?_
  · rintro j st σ1 hj ⟨rfl, rfl, hm⟩
    obtain ⟨o1, o2⟩ := wOf_off ts j hj
    rw [← hW] at o1 o2
    obtain ⟨t1, t2⟩ := ht ts[j] (List.getElem_mem hj)
    have hsn := splitN_nn ts[j].1
    have hoff := off_succ ts j hj
    have hle := hlts (j + 1) hj
    have hwb : 0 ≤ ts[j].1 ∧ ts[j].1 < 18446744073709551616 := by
      rw [← o1]
      have e : W.getD (wOf (ts.take j)).length 0 = W[(wOf (ts.take j)).length] := by simp [List.getD, o2]
      rw [e]
      exact hb _ (List.getElem_mem o2)
    obtain ⟨kk, tt, hsp⟩ := ev_split46 (σ := σ) ts[j].1 hwb
    have hN : splitN ts[j].1 = ((ts[j].2.length : Nat) : Int) := by omega
    simp only [T30b3, asCons_cons, asInt_int, asBool_bool, asPtr_ptr, asNil_nil]
    rw [wp_ldF a1 rfl, asSlice_slice, wp_bif, if_pos (by simp; omega), wp_join, wp_ldF a1 rfl, asSlice_slice, wp_rdJ a2.rdB.rd o2, o1, wp_call, WpF.eq hsp]
    simp only [asTuple_tuple, asCons_cons, asInt_int, asBool_bool, asNil_nil]
    rw [hN]
    refine Wp.count ts[j].2.length (fun k st σ' => st = [.int .i64 ((k : Int) + 1), .bool false, .pointer none] ∧ σ = σ' ∧ ∀ i (hi : i < ts[j].2.length), i < k → mayB (hOf ts) ts[j].2[i] = true) ⟨rfl, rfl, fun i _ hi => by omega⟩ ?_ ?_
    · rintro k st σ2 hk ⟨rfl, rfl, hmk⟩
      have ek : wi64 ((k : Int) + 1 + 1) = ((k + 1 : Nat) : Int) + 1 := by rw [wi64_in (by omega)]; omega
      have ei : wi64 ((((wOf (ts.take j)).length : Nat) : Int) + ((k : Int) + 1)) = (((wOf (ts.take j)).length + (k + 1) : Nat) : Int) := by rw [wi64_in (by omega)]; omega
      have hidx : (wOf (ts.take j)).length + (k + 1) < W.length := by omega
      have hval : W.getD ((wOf (ts.take j)).length + (k + 1)) 0 = ts[j].2[k] := by
        rw [hW, wOf_split ts j hj]
        unfold List.getD
        rw [List.getElem?_append_right (by omega), show (wOf (ts.take j)).length + (k + 1) - (wOf (ts.take j)).length = k + 1 by omega, List.getElem?_cons_succ, List.getElem?_append_left hk, List.getElem?_eq_getElem hk]
        rfl
      have hwk : 0 ≤ ts[j].2[k] ∧ ts[j].2[k] < 18446744073709551616 := by
        rw [← hval]
        have e : W.getD ((wOf (ts.take j)).length + (k + 1)) 0 = W[(wOf (ts.take j)).length + (k + 1)] := by simp [List.getD, hidx]
        rw [e]
        exact hb _ (List.getElem_mem hidx)
      simp only [T30b2, asCons_cons, asInt_int, asBool_bool, asPtr_ptr, asNil_nil]
      rw [wp_bif, if_pos (by simp; omega), wp_join, wp_ldF a1 rfl, asSlice_slice, ei, wp_rdJ a2.rdB.rd hidx, hval, wp_call, WpF.eq (ev_word41 h hW ht hl hb _ hwk), asBool_bool, wp_bif]
      cases hmj : mayB (hOf ts) ts[j].2[k] with
      | true =>
        rw [if_neg (by simp), wp_ret]
        simp only [T30k4, sw_nr, sw_same, asCons_cons, asBool_bool, asPtr_ptr, asNil_nil]
        rw [wp_ret, ek]
        refine ⟨rfl, rfl, fun i hi hik => ?_⟩
        by_cases e : i = k
        · subst e
          exact hmj
        · exact hmk i hi (by omega)
      | false =>
        rw [if_pos (by rfl), wp_ret]
        simp only [T30k4, sw_same, asCons_cons, asBool_bool, asPtr_ptr, asNil_nil]
        rw [wp_ret]
        simp only [T30k5, sw_re, sw_same, asCons_cons, asInt_int, asBool_bool, asPtr_ptr, asNil_nil]
        rw [wp_ret]
        simp only [T30k6, sw_same, asCons_cons, asInt_int, asBool_bool, asPtr_ptr, asNil_nil]
        rw [wp_ret]
        simp only [T30k7, sw_re, sw_same, asCons_cons, asInt_int, asBool_bool, asPtr_ptr, asNil_nil]
        rw [wp_ret]
        refine ⟨_, rfl, hno fun ha => ?_⟩
        have := (may_back (hOf ts) ts (by rw [hW] at ha; exact ha) j hj k hk).2.2
        rw [hmj] at this
        cases this
    · rintro st σ2 ⟨rfl, rfl, hmk⟩
      simp only [T30b2, asCons_cons, asInt_int, asBool_bool, asPtr_ptr, asNil_nil]
      rw [wp_bif, if_neg (by simp; omega), wp_ret]
      simp only [T30k5, sw_same, asCons_cons, asInt_int, asBool_bool, asPtr_ptr, asNil_nil]
      rw [wp_ret]
      simp only [T30k6, sw_nr, sw_same, asCons_cons, asInt_int, asBool_bool, asPtr_ptr, asNil_nil]
      rw [wp_ret]
      have e1 : wi64 (wi64 ((((wOf (ts.take j)).length : Nat) : Int) + ((ts[j].2.length : Nat) : Int)) + 1) = (((wOf (ts.take (j + 1))).length : Nat) : Int) := by
        rw [wi64_in (n := (((wOf (ts.take j)).length : Nat) : Int) + ((ts[j].2.length : Nat) : Int)) (by omega), wi64_in (by omega)]
        omega
      rw [e1]
      refine ⟨rfl, rfl, fun i hi hij w hw => ?_⟩
      by_cases e : i = j
      · subst e
        obtain ⟨k, hk, rfl⟩ := List.mem_iff_getElem.1 hw
        exact hmk k hk hk
      · exact hm i hi (by omega) w hw
  · rintro st σ1 ⟨rfl, rfl, hm⟩
    rw [List.take_length, ← hW]
    simp only [T30b3, asCons_cons, asInt_int, asBool_bool, asPtr_ptr, asNil_nil]
    rw [wp_ldF a1 rfl, asSlice_slice, wp_bif, if_neg (by simp), wp_ret]
    simp only [T30k7, sw_same, asCons_cons, asInt_int, asBool_bool, asPtr_ptr, asNil_nil]
    rw [wp_ret]
    refine ⟨_, rfl, hok ?_⟩
    rw [hW]
    exact allMay_of (hOf ts) ts fun t htm w hw => by
      obtain ⟨i, hi, rfl⟩ := List.mem_iff_getElem.1 htm
      exact hm i hi hi w hw
end
end Go.Pg
