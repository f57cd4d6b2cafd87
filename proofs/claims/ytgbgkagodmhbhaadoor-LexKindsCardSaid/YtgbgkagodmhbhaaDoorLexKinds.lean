/- Layer 2: words of each kind are what that kind says, and as long as can be: the law's tree returns true. -/
import Derived.Test.YtgbgkagodmhbhaaDoorLexZ
namespace Go.Pg
open Go.Proofs Go.Utf8 Go.Lib

theorem byteAt_mkB (S : List UInt8) (i : Nat) : byteAt (mkB S) i = (((S.getD i 0).toNat : Nat) : Int) := rfl

theorem kinds_loop (S : List UInt8) (hS : S.length ≤ 1000) (ws : List Wd) (hc : chain S 0 ws) (hcnt : ws.length ≤ 2000) (σ1 : AHeap) (b1 : Nat) (p1 : Option Addr) (c1 : Nat) (hR1 : SlE σ1 b1 p1 c1 4 (wcs ws)) :
    Wp PROG ovD (.loop [.int .i64 0, .bool false] (T6b0 ws.length p1 (mkB S)) T6k4) σ1 fun _ vs _ => ∃ v, vs = [v] ∧ v = .bool true := by
  have hsz := mkB_size S
  refine Wp.count ws.length (fun j st σ' => Frm σ1 σ' NoB ∧ st = [.int .i64 ((j : Nat) : Int), .bool false]) ⟨Frm.refl _ _, rfl⟩ ?_ ?_
  · rintro j st σ2 hj ⟨hF2, rfl⟩
    have ej : wi64 ((j : Int) + 1) = ((j + 1 : Nat) : Int) := by rw [wi64_in (by omega)]; omega
    obtain ⟨g1, g2, g3, g4, g5, g6⟩ := chain_get hc j hj
    have hgood := chain_good hc ws[j] (List.getElem_mem hj)
    have htl := List.length_pos_iff.2 g3
    have hal := lexA_word hgood
    have hkd := g6.kind
    have hnum : ws[j].k = 1 → ws[j].to < S.length → ¬ (48 ≤ (S.getD ws[j].to 0).toNat ∧ (S.getD ws[j].to 0).toNat ≤ 57) := by
      intro hk hlt
      have e : S.drop ws[j].to = S.getD ws[j].to 0 :: S.drop (ws[j].to + 1) := by
        rw [List.drop_eq_getElem_cons hlt]
        simp [List.getD, List.getElem?_eq_getElem hlt]
      exact num_end g6 g5 hk e
    simp only [T6b0, asCons_cons, asInt_int, asBool_bool, asNil_nil]
    rw [wp_bif, if_pos (by simp; omega), wp_join, wp_wa (hR1.frm hF2 fun _ h => h) hj rfl]
    simp only [wc, asAgg_agg, asCons_cons, asInt_int, asStr_str, asNil_nil]
    generalize ws[j] = w at g1 g2 g3 g4 g5 g6 htl hal hkd hnum ⊢
    obtain ⟨k, t, fr, to⟩ := w
    simp only at g1 g2 g3 g4 g5 g6 htl hal hkd hnum ⊢
    refine wp_newQ fun σ3 hF3 hn3 hS3 => ?_
    refine wp_stQ hS3 rfl rfl fun σ4 hF4 hn4 hS4 => ?_
    have hF24 : Frm σ2 σ4 NoB := hF3.fresh hF4 fun j hj e => by omega
    have ldk := fun (g : Value → Pg) (Q : Post) => wp_ldF (P := PROG) (ov := ovD) hS4 (i := 0) (v := .int .i64 k) rfl g Q
    have ldt := fun (g : Value → Pg) (Q : Post) => wp_ldF (P := PROG) (ov := ovD) hS4 (i := 1) (v := .string (mkB t)) rfl g Q
    have ldf := fun (g : Value → Pg) (Q : Post) => wp_ldF (P := PROG) (ov := ovD) hS4 (i := 2) (v := .int .i64 ((fr : Nat) : Int)) rfl g Q
    have ldo := fun (g : Value → Pg) (Q : Post) => wp_ldF (P := PROG) (ov := ovD) hS4 (i := 3) (v := .int .i64 ((to : Nat) : Int)) rfl g Q
    rw [wp_join, ldk, asInt_int, wp_bif, if_pos (by simp; omega), ldk, asInt_int, wp_bif, if_pos (by simp; omega), ldt, asStr_str, wp_bif, if_pos (by rw [tl_mkB, tl_bs]; simpa using g3),
      ldo, asInt_int, wp_bif, if_pos (by simp; omega), ldf, asInt_int, wp_bif, if_pos (by simp), ldf, asInt_int, ldo, asInt_int, wp_ret]
    have e1 : decide (((fr : Nat) : Int) > ((to : Nat) : Int)) = false := by simp; omega
    rw [e1]
    simp only [T6k2, sw_same, asCons_cons, asBool_bool, asNil_nil]
    rw [wp_bif, if_neg (by simp), wp_join]
    have fin : Wp PROG ovD (T6k1 ⟨σ2.n, 0, some 0⟩ false .normal [.bool false]) σ4 fun e vs σ' => Wp PROG ovD (T6k3 (j : Nat) e vs) σ' fun e st' σ' => match e with
        | .normal => Frm σ1 σ' NoB ∧ st' = [.int .i64 ((j + 1 : Nat) : Int), .bool false]
        | e => Wp PROG ovD (T6k4 e st') σ' fun _ vs _ => ∃ v, vs = [v] ∧ v = .bool true := by
      simp only [T6k1, sw_same, asCons_cons, asBool_bool, asNil_nil]
      rw [wp_bif, if_neg (by simp), ldt, asStr_str, wp_call]
      refine wp_lex t (by omega) (fun ws' hws' σ5 b5 p5 c5 hF5 hR5 hb5 => ?_) (fun e a he σ5 hF5 => ?_)
      · obtain rfl : ws' = [⟨k, t, 0, t.length⟩] := by
          have := hws'.symm.trans hal
          cases this
          rfl
        simp only [asTuple_tuple, asCons_cons, asSlice_slice, asInt_int, asNil_nil]
        obtain ⟨off, s, rfl, hR5'⟩ := hR5.some (j := 0) (by simp)
        rw [wp_join, wp_bif, if_pos (by rfl), wp_bif, if_pos (by rfl), asSome_some, wp_grd]
        refine ⟨by rfl, ?_⟩
        have e0 := wp_rowF (P := PROG) (ov := ovD) hR5' (i := 0) (o := 0) (v := .int .i64 k) rfl
        rw [show aadd (aadd ⟨b5, off, some s⟩ 0) 0 = aadd (aadd ⟨b5, off, some s⟩ (0 * 4)) 0 from rfl, e0, asInt_int, wp_ldF (hF5.stN hS4) (i := 0) (v := .int .i64 k) rfl, asInt_int, wp_ret]
        have ek : (k != k) = false := by simp
        rw [ek]
        simp only [T6k0, sw_same, asCons_cons, asBool_bool, asNil_nil]
        rw [wp_bif, if_neg (by simp), wp_ret]
        simp only [T6k3, sw_nr, sw_same, asCons_cons, asBool_bool, asNil_nil]
        rw [wp_ret, ej]
        exact ⟨(hF2.seq hF24).seq hF5, rfl⟩
      · exact absurd (he.symm.trans hal) (by simp)
    rw [ldk, asInt_int, wp_bif]
    by_cases hk1 : k = 1
    · rw [if_pos (by simp [hk1]), ldo, asInt_int, wp_bif]
      by_cases hlt : to < S.length
      · have hn := hnum hk1 hlt
        rw [if_pos (by simp only [beq_iff_eq, decide_eq_true_eq]; omega), ldo, asInt_int, wp_grd]
        refine ⟨by simp only [Bool.and_eq_true, decide_eq_true_eq]; omega, ?_⟩
        rw [Int.toNat_natCast, byteAt_mkB, wp_bif]
        by_cases h48 : 48 ≤ (S.getD to 0).toNat
        · rw [if_pos (by simp only [beq_iff_eq, decide_eq_true_eq]; omega), ldo, asInt_int, wp_grd]
          refine ⟨by simp only [Bool.and_eq_true, decide_eq_true_eq]; omega, ?_⟩
          rw [Int.toNat_natCast, byteAt_mkB, wp_ret]
          have e57 : decide ((((S.getD to 0).toNat : Nat) : Int) ≤ 57) = false := by simp only [decide_eq_false_iff_not]; omega
          rw [e57]
          exact fin
        · rw [if_neg (by simp only [beq_iff_eq, decide_eq_true_eq]; omega), wp_ret]
          exact fin
      · rw [if_neg (by simp only [beq_iff_eq, decide_eq_true_eq]; omega), wp_ret]
        exact fin
    · rw [if_neg (by simpa using hk1), wp_ret]
      exact fin
  · rintro st σ2 ⟨hF2, rfl⟩
    simp only [T6b0, asCons_cons, asInt_int, asBool_bool, asNil_nil]
    rw [wp_bif, if_neg (by simp), wp_ret]
    simp only [T6k4, sw_same, asCons_cons, asInt_int, asBool_bool, asNil_nil]
    rw [wp_ret]
    exact ⟨_, rfl, rfl⟩

theorem lexKinds_true (s0 : ByteArray) (_ : s0.size ≤ maxLen) : WpF PROG ovD 6 [.string s0] (startH (tabOld tabsD)) fun v _ => v = .bool true := by
  refine WpF.of (T6_eq _) rfl ?_
  rw [T6, wp_call]
  refine awake2.mono ?_
  rintro v σ rfl
  rw [← mkB_self s0]
  generalize s0.data.toList = S
  have hsz := mkB_size S
  rw [asBool_bool, wp_bif, if_neg (by simp), wp_bif]
  by_cases h0 : (((mkB S).size : Nat) : Int) > 1000
  · rw [if_pos (by simpa using h0), wp_ret]
    exact ⟨_, rfl, rfl⟩
  rw [if_neg (by simpa using h0), wp_call]
  refine wp_lex S (by omega) (fun ws hws σ1 b1 p1 c1 hF1 hR1 hb1 => ?_) (fun e a he σ1 hF1 => ?_)
  · have hch := lexL_chain S _ 0 0 ws (by omega) (by rw [List.drop_zero]; exact hws)
    simp only [asTuple_tuple, asCons_cons, asSlice_slice, asInt_int, asNil_nil]
    refine kinds_loop S (by omega) ws hch.1 ?_ σ1 b1 p1 c1 hR1
    rcases hch.2 with h | h
    · rw [h]; simp
    · omega
  · simp only [asTuple_tuple, asCons_cons, asSlice_slice, asInt_int, asNil_nil]
    exact kinds_loop S (by omega) [] trivial (by simp) σ1 0 none 0 (.inl ⟨rfl, rfl, rfl⟩)
end Go.Pg
