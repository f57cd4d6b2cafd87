/- Layer 12: the document's heap: Collect. -/
import Derived.Test.YtndkndlfhmkkkaaHeap16
namespace Go.Pg
open Go.Proofs

theorem hOf_zero : ∀ ts : List (Int × List Int), 0 < (hOf ts).length → (hOf ts).getD 0 false = true
  | [], h => by simp [hOf] at h
  | t :: ts, _ => by rw [hOf_cons]; rfl

/-- Behind a head stand its words, and then another head, or nothing. -/
theorem next_head {us : List (Int × List Int)} (ht : ThOK us) (d : Nat) (h : (hOf us).getD d false = true) :
    (∀ i, i < (splitN ((wOf us).getD d 0)).toNat → (hOf us).getD (d + 1 + i) false = false) ∧ d + 1 + (splitN ((wOf us).getD d 0)).toNat ≤ (wOf us).length ∧ (d + 1 + (splitN ((wOf us).getD d 0)).toNat < (wOf us).length → (hOf us).getD (d + 1 + (splitN ((wOf us).getD d 0)).toNat) false = true) := by
  obtain ⟨_, t2⟩ := thing_at us d ht h
  obtain ⟨j, hj, e⟩ := hOf_place us d h
  obtain ⟨o1, o2⟩ := wOf_off us j hj
  obtain ⟨_, q2⟩ := ht us[j] (List.getElem_mem hj)
  have hs := hOf_split us j hj
  have hd : (hOf (us.take j)).length = d := by rw [hOf_len]; exact e.symm
  rw [← e] at o1
  rw [o1, q2] at t2 ⊢
  have g : ∀ i, (hOf us).getD (d + 1 + i) false = (List.replicate us[j].2.length false ++ hOf (us.drop (j + 1))).getD i false := fun i => by
    rw [hs]
    unfold List.getD
    rw [List.getElem?_append_right (by omega), hd, show d + 1 + i - d = i + 1 by omega, List.getElem?_cons_succ]
  refine ⟨fun i hi => ?_, t2, fun hlt => ?_⟩
  · rw [g]
    unfold List.getD
    rw [List.getElem?_append_left (by simpa using hi)]
    simp [hi]
  · rw [g]
    unfold List.getD
    rw [List.getElem?_append_right (by simp)]
    simp only [List.length_replicate, Nat.sub_self]
    refine hOf_zero _ ?_
    have hl : (hOf us).length = (wOf us).length := hOf_len us
    have : (hOf us).length = d + (1 + (us[j].2.length + (hOf (us.drop (j + 1))).length)) := by
      rw [hs]
      simp [hd]
      omega
    omega

theorem moveM_pre (W : List Int) (H : List Bool) (s : CS) (w : Int) : (∃ X, (moveM W H s w).1.h = s.h ++ X) ∧ ∃ X, (moveM W H s w).1.w = s.w ++ X := by
  unfold moveM
  by_cases hp : plB H w = true
  · rw [if_pos hp]
    cases look s.m (atI w) with
    | some p => exact ⟨⟨[], by simp⟩, ⟨[], by simp⟩⟩
    | none => exact ⟨⟨_, rfl⟩, ⟨_, rfl⟩⟩
  · rw [if_neg hp]
    exact ⟨⟨[], by simp⟩, ⟨[], by simp⟩⟩
theorem getD_pre {α : Type} (l X : List α) (k : Nat) (d : α) (h : k < l.length) : (l ++ X).getD k d = l.getD k d := by
  unfold List.getD
  rw [List.getElem?_append_left h]
theorem scanM_end (W : List Int) (H : List Bool) (f i : Nat) (s : CS) (h : s.w.length ≤ i) : scanM W H f i s = s := by
  cases f with
  | zero => rfl
  | succ f => unfold scanM; rw [if_neg (by omega)]
theorem scanM_step (W : List Int) (H : List Bool) (f i : Nat) (s : CS) (h : i < s.w.length) (hf : i < f) : scanM W H (f - i) i s = scanM W H (f - (i + 1)) (i + 1) (stepM W H i s) := by
  rw [show f - i = (f - (i + 1)) + 1 by omega]
  conv => lhs; unfold scanM
  rw [if_pos h]

theorem RC.step {σ σ' : AHeap} {N0 S : Nat} {E T : Nat → Prop} {room tu : Int} {W : List Int} {s : CS} {pt pf pp : Option Addr} {ct cf cp : Nat} (h : RC σ N0 S E room tu W s pt ct pf cf pp cp) (k : Frm σ σ' T) (hT : ∀ i, i < σ.n → T i → E i) : RC σ' N0 S E room tu W s pt ct pf cf pp cp := by
  obtain ⟨hn0, hrp, bt, bf, bp, pl, t1, t2, t3, e, k1, k2, k3, d1, d2, d3, hE, hml⟩ := h
  have hn := k.n
  have lt : ∀ {b c : Nat} {p : Option Addr} {xs : List Value}, SlV σ b p c xs → p ≠ none → b < σ.n := fun {b c p xs} h hp => by
    cases p with
    | none => exact absurd rfl hp
    | some a => exact h.lt
  refine ⟨by omega, hrp.step k (fun i hi ht => ⟨(hE i (hT i hi ht)).1, hi⟩) fun i hi => ⟨hi.2, by omega⟩, bt, bf, bp, pl, t1.frm k fun hp ht => (k1 hp).2 (hT bt (lt t1 hp) ht), t2.frm k fun hp ht => (k2 hp).2 (hT bf (lt t2 hp) ht), t3.frm k fun hp ht => (k3 hp).2 (hT bp (lt t3 hp) ht), e, k1, k2, k3, d1, d2, d3, fun i hi => ⟨(hE i hi).1, Nat.lt_of_lt_of_le (hE i hi).2 hn⟩, hml⟩

section
variable {σ : AHeap} {N0 S : Nat} {Y E : Nat → Prop} {room tu : Int} {W : List Int} {s : CS} {pt pf pp : Option Addr} {ct cf cp : Nat} {ts : List (Int × List Int)}

theorem RC.toSl (h : RC σ N0 S E room tu W s pt ct pf cf pp cp) : ∃ bt, SlV σ bt pt ct (ints .u64 s.w) ∧ (pt ≠ none → N0 ≤ bt ∧ ¬ E bt) := by
  obtain ⟨hn0, hrp, bt, bf, bp, pl, t1, t2, t3, e, k1, k2, k3, d1, d2, d3, hE, hml⟩ := h
  exact ⟨bt, t1, k1⟩

theorem RC.setTo (h : RC σ N0 S E room tu W s pt ct pf cf pp cp) (k : Nat) (hk : k < s.w.length) (w : Int) {p : Pg} {Q : Post}
    (K : ∀ σ', Frm σ σ' (fun j => N0 ≤ j ∧ ¬ E j) → RC σ' N0 S E room tu W ⟨s.w.set k w, s.h, s.m⟩ pt ct pf cf pp cp → Wp PROG ov0 p σ' Q) :
    Wp PROG ov0 (asSome pt fun a => grd ((decide (0 ≤ (k : Int))) && (decide ((k : Int) < ((s.w.length : Nat) : Int)))) (.act (stC (aadd a ((Int.toNat (k : Int)) * 1)) [.int .u64 w]) fun v => asTuple v fun l => asNil l p)) σ Q := by
  obtain ⟨hn0, hrp, bt, bf, bp, pl, t1, t2, t3, e, k1, k2, k3, d1, d2, d3, hE, hml⟩ := h
  obtain ⟨off, ss, rfl, hR⟩ := t1.rowOf (by intro e; have := congrArg List.length e; simp at this; rw [this] at hk; simp at hk)
  simp only [asSome_some]
  rw [wp_grd]
  refine ⟨by simp; omega, ?_⟩
  rw [Int.toNat_natCast]
  refine wp_rowW hR (by simpa using hk) rfl fun σ1 hF1 hn1 hR1 => ?_
  have ee : (ints .u64 s.w).set k (.int .u64 w) = ints .u64 (s.w.set k w) := by simp [ints, List.map_set]
  rw [ee] at hR1
  have hne : (some (⟨bt, off, some ss⟩ : Addr)) ≠ none := by simp
  exact K σ1 (hF1.mono fun j _ e => by rw [e]; exact k1 hne) ⟨by omega, hrp.step hF1 (fun i hi e => ⟨by rw [e]; exact (k1 hne).1, hi⟩) fun i hi => ⟨hi.2, .inl ⟨hi.1, by omega⟩⟩, bt, bf, bp, pl, .inr ⟨off, ss, rfl, hR1⟩, t2.frm hF1 (fun hq e => d1 hne hq e.symm), t3.frm hF1 (fun hq e => d2 hne hq e.symm), e, k1, k2, k3, d1, d2, d3, fun i hi => ⟨(hE i hi).1, by rw [hn1]; exact (hE i hi).2⟩, by simpa using hml⟩

theorem wp_collectR (h : RP σ S Y room tu W) (hf : Fresh σ) (htu : 0 ≤ tu ∧ tu ≤ 100000) (hl : W.length ≤ 100000) (hW : W = wOf ts) (ht : ThOK ts) (hb : ∀ x ∈ W, 0 ≤ x ∧ x < 18446744073709551616)
    {c : Nat} {p : Option Addr} {rs : List Int} (hr : OldR σ.old p c rs) (hrs : ∀ x ∈ rs, 0 ≤ x ∧ x < 18446744073709551616) (hrl : rs.length ≤ 100000) {Q : Value → AHeap → Prop}
    (hQ : ∀ σ' q ob qc, Frm σ σ' (fun j => ¬ Y j) → SlV σ' ob q qc (ints .u64 (rootsM W (hOf ts) ⟨[], [], []⟩ rs).2) → (q ≠ none → σ.n ≤ ob) → RP σ' S (fun i => Y i ∨ (q ≠ none ∧ i = ob)) room (tu + 1) (scanM W (hOf ts) W.length 0 (rootsM W (hOf ts) ⟨[], [], []⟩ rs).1).w → Q (.slice q rs.length qc) σ') :
    WpF PROG ov0 21 [PV S, .slice p rs.length c] σ Q := by
  obtain ⟨h0, cw, pw, capw, a1, a2, a3, a4, a5⟩ := id h
  have hS := a1.1
  refine WpF.of (T21_eq _ _ _ _) rfl ?_
  rw [T21]
  refine wp_bd0 fun σ1 q0 hF1 hn1 hE0 => ?_
  refine wp_appF hE0 rfl (hr.fst σ1 hF1.old) (ones_ints _ _) (by simp) (by simp; omega) (by simp; omega) fun σ2 bm pm cm hF2 hbm hRm => ?_
  rw [Nat.zero_add]
  rw [List.nil_append] at hRm
  have hF02 : Frm σ σ2 NoB := hF1.fresh hF2 fun j hj h => by omega
  have hbm' : pm ≠ none → σ.n ≤ bm := fun hp => by
    rcases hbm with e | ⟨_, e⟩ | e
    · exact absurd e hp
    · omega
    · omega
  have hbl : pm ≠ none → bm < σ2.n := fun hp => by
    cases pm with
    | none => exact absurd rfl hp
    | some a => exact hRm.lt
  have hC0 : RC σ2 σ.n S (fun i => pm ≠ none ∧ i = bm) room tu W ⟨[], [], []⟩ none 0 none 0 none 0 :=
    ⟨hF02.n, h.step hF02 (fun i _ h => h.elim) (fun i hi => ⟨hi.2, .inr hi.1⟩), 0, 0, 0, [], .inl ⟨rfl, rfl, rfl⟩, .inl ⟨rfl, rfl, rfl⟩, .inl ⟨rfl, rfl, rfl⟩, rfl, fun h => absurd rfl h, fun h => absurd rfl h, fun h => absurd rfl h, fun h => absurd rfl h, fun h => absurd rfl h, fun h => absurd rfl h, fun i hi => by rw [hi.2]; exact ⟨hbm' hi.1, hbl hi.1⟩, Nat.le_refl _⟩
  have hI0 : CInv W (hOf ts) ts ⟨[], [], []⟩ := ⟨rfl, by simp [remF_nil, ← hW], (fun x hx => by cases hx), fun x hx => by cases hx⟩
  have hS0 : CStr ⟨[], [], []⟩ := ⟨[], rfl, rfl, fun t h => by cases h⟩
  refine Wp.count rs.length (fun j st σ' => ∃ pt ct pf cf pp cp, st = [.int .i64 ((j : Nat) : Int), .slice pp (rootsM W (hOf ts) ⟨[], [], []⟩ (rs.take j)).1.m.length cp, .slice pf (rootsM W (hOf ts) ⟨[], [], []⟩ (rs.take j)).1.m.length cf, .slice pt (rootsM W (hOf ts) ⟨[], [], []⟩ (rs.take j)).1.w.length ct] ∧ Frm σ σ' NoB ∧ RC σ' σ.n S (fun i => pm ≠ none ∧ i = bm) room tu W (rootsM W (hOf ts) ⟨[], [], []⟩ (rs.take j)).1 pt ct pf cf pp cp ∧ CInv W (hOf ts) ts (rootsM W (hOf ts) ⟨[], [], []⟩ (rs.take j)).1 ∧ CStr (rootsM W (hOf ts) ⟨[], [], []⟩ (rs.take j)).1 ∧ SlV σ' bm pm cm (ints .u64 ((rootsM W (hOf ts) ⟨[], [], []⟩ (rs.take j)).2 ++ rs.drop j)) ∧ (rootsM W (hOf ts) ⟨[], [], []⟩ (rs.take j)).2.length = j)
    ⟨none, 0, none, 0, none, 0, rfl, hF02, hC0, hI0, hS0, hRm, rfl⟩ ?_ ?_
  · rintro j st σ3 hj ⟨pt, ct, pf, cf, pp, cp, rfl, hF3, hC, hI, hT, hM, hol⟩
    have ej : wi64 ((j : Int) + 1) = ((j + 1 : Nat) : Int) := by rw [wi64_in (by omega)]; omega
    have hrj := hrs rs[j] (List.getElem_mem hj)
    have hsn : rootsM W (hOf ts) ⟨[], [], []⟩ (rs.take (j + 1)) = ((moveM W (hOf ts) (rootsM W (hOf ts) ⟨[], [], []⟩ (rs.take j)).1 rs[j]).1, (rootsM W (hOf ts) ⟨[], [], []⟩ (rs.take j)).2 ++ [(moveM W (hOf ts) (rootsM W (hOf ts) ⟨[], [], []⟩ (rs.take j)).1 rs[j]).2]) := by
      rw [List.take_succ_eq_append_getElem hj, rootsM_snoc]
    have hmv := hI.move hW rfl ht hb rs[j] hrj
    have hmT := hT.move hW rfl ht rs[j] hrj.1
    have hrem := hI.rem
    rw [hsn]
    generalize rootsM W (hOf ts) ⟨[], [], []⟩ (rs.take j) = sx at hC hI hT hM hol hmv hmT hrem ⊢
    have eg : (sx.2 ++ rs.drop j).getD j 0 = rs[j] := by
      unfold List.getD
      rw [List.getElem?_append_right (by omega), hol, Nat.sub_self, List.getElem?_drop, Nat.add_zero, List.getElem?_eq_getElem hj]
      rfl
    simp only [T21b0, asCons_cons, asInt_int, asSlice_slice, asNil_nil]
    rw [wp_bif, if_pos (by simp; omega), wp_join, wp_rdN hM.rdB.rd (by simp [hol]; omega) (by simp [hol]; omega), eg, wp_call]
    refine wp_move45 hC (hF3.fr hf) hW ht hl hb (by omega) rs[j] hrj fun σ4 pt' ct' pf' cf' pp' cp' hF4 hC4 => ?_
    have hM4 := hM.frm hF4 fun hp hn => hn.2 ⟨hp, rfl⟩
    have hF04 : Frm σ σ4 NoB := hF3.fresh hF4 fun i hi h => by omega
    obtain ⟨off, ss, rfl, hR⟩ := hM4.rowOf (by intro e; have := congrArg List.length e; simp at this; omega)
    simp only [asTuple_tuple, asCons_cons, asInt_int, asSlice_slice, asNil_nil, asSome_some]
    rw [wp_grd]
    refine ⟨by simp; omega, ?_⟩
    rw [Int.toNat_natCast]
    refine wp_rowW hR (by simp [hol]; omega) rfl fun σ5 hF5 hn5 hR5 => ?_
    rw [wp_ret]
    simp only [T21k0, sw_same, asCons_cons, asSlice_slice, asNil_nil]
    rw [wp_ret, ej]
    refine ⟨pt', ct', pf', cf', pp', cp', rfl, hF04.fresh hF5 fun i hi e => by have := hbm' (by simp); omega, hC4.step hF5 fun i _ e => ⟨by simp, e⟩, hmv.1, hmT, .inr ⟨off, ss, rfl, ?_⟩, by simp [hol]⟩
    have e : (ints .u64 (sx.2 ++ rs.drop j)).set j (.int .u64 (moveM W (hOf ts) sx.1 rs[j]).2) = ints .u64 (sx.2 ++ [(moveM W (hOf ts) sx.1 rs[j]).2] ++ rs.drop (j + 1)) := by
      have e1 : rs.drop j = rs[j] :: rs.drop (j + 1) := List.drop_eq_getElem_cons hj
      rw [e1]
      unfold ints
      rw [← List.map_set, List.set_append_right _ _ (by omega), hol, Nat.sub_self, List.set_cons_zero, List.append_assoc]
      rfl
    rw [e] at hR5
    exact hR5
  · rintro st σ3 ⟨pt, ct, pf, cf, pp, cp, rfl, hF3, hC, hI, hT, hM, hol⟩
    rw [List.take_length] at hC hI hT hM hol ⊢
    rw [List.drop_length, List.append_nil] at hM
    generalize rootsM W (hOf ts) ⟨[], [], []⟩ rs = sx at hC hI hT hM hol hQ ⊢
    simp only [T21b0, asCons_cons, asInt_int, asSlice_slice, asNil_nil]
    rw [wp_bif, if_neg (by simp), wp_ret]
    simp only [T21k5, sw_same, asCons_cons, asInt_int, asSlice_slice, asNil_nil]
    refine Wp.loop (fun m st σ' => ∃ d : Nat, ∃ s : CS, ∃ pt ct pf cf pp cp, m = W.length - d ∧ st = [.int .i64 ((d : Nat) : Int), .slice pp s.m.length cp, .slice pf s.m.length cf, .slice pt s.w.length ct] ∧ Frm σ σ' NoB ∧ RC σ' σ.n S (fun i => pm ≠ none ∧ i = bm) room tu W s pt ct pf cf pp cp ∧ CInv W (hOf ts) ts s ∧ CStr s ∧ SlV σ' bm pm cm (ints .u64 sx.2) ∧ (d < s.w.length → s.h.getD d false = true) ∧ d ≤ s.w.length ∧ scanM W (hOf ts) W.length 0 sx.1 = scanM W (hOf ts) (W.length - d) d s) W.length
      ⟨0, sx.1, pt, ct, pf, cf, pp, cp, rfl, rfl, hF3, hC, hI, hT, hM, fun h => ?_, Nat.zero_le _, rfl⟩ ?_
    · obtain ⟨us, u1, u2, u3⟩ := hT
      rw [u2]
      refine hOf_zero us ?_
      rw [hOf_len, ← u1]
      exact h
    · clear hC hI hT hM hF3
      rintro m st σ4 ⟨d, s, pt, ct, pf, cf, pp, cp, rfl, rfl, hF4, hC, hI, hT, hM, hhd, hdl, hsc⟩
      have hrem := hI.rem
      simp only [T21b2, asCons_cons, asInt_int, asSlice_slice, asNil_nil]
      rw [wp_bif]
      by_cases hd : d < s.w.length
      · obtain ⟨bt, t1, _⟩ := hC.toSl
        have ed : s.w.getD d 0 = s.w[d] := by simp [List.getD, hd]
        have hdb := hI.nn _ (List.getElem_mem hd)
        have hnn := splitN_nn (s.w.getD d 0)
        have hh := hhd hd
        rw [if_pos (by simp; omega), wp_join, wp_rdJ t1.rdB.rd hd, wp_call, WpF.eq (ev_split46x _ (by rw [ed]; exact hdb))]
        simp only [asTuple_tuple, asCons_cons, asInt_int, asBool_bool, asNil_nil]
        rw [scanM_step W (hOf ts) W.length d s hd (by omega), show stepM W (hOf ts) d s = s by unfold stepM; rw [if_pos hh]] at hsc
        refine Wp.count (splitN (s.w.getD d 0)).toNat (fun i st σ' => ∃ s' pt ct pf cf pp cp, st = [.int .i64 ((i + 1 : Nat) : Int), .slice pp s'.m.length cp, .slice pf s'.m.length cf, .slice pt s'.w.length ct] ∧ Frm σ σ' NoB ∧ RC σ' σ.n S (fun i => pm ≠ none ∧ i = bm) room tu W s' pt ct pf cf pp cp ∧ CInv W (hOf ts) ts s' ∧ CStr s' ∧ SlV σ' bm pm cm (ints .u64 sx.2) ∧ d < s'.w.length ∧ s'.h.getD d false = true ∧ s'.w.getD d 0 = s.w.getD d 0 ∧ scanM W (hOf ts) W.length 0 sx.1 = scanM W (hOf ts) (W.length - (d + 1 + i)) (d + 1 + i) s')
          ⟨s, pt, ct, pf, cf, pp, cp, rfl, hF4, hC, hI, hT, hM, hd, hh, rfl, hsc⟩ ?_ ?_
        · rintro i st σ5 hi ⟨s', pt', ct', pf', cf', pp', cp', rfl, hF5, hC5, hI5, hT5, hM5, hd5, hh5, hw5, hsc5⟩
          have hrem5 := hI5.rem
          have hx : wi64 ((d : Int) + ((i + 1 : Nat) : Int)) = ((d + 1 + i : Nat) : Int) := by rw [wi64_in (by omega)]; omega
          have ei : wi64 (((i + 1 : Nat) : Int) + 1) = ((i + 1 + 1 : Nat) : Int) := by rw [wi64_in (by omega)]; omega
          have hnx : s'.h.getD (d + 1 + i) false = false ∧ d + 1 + i < s'.w.length := by
            obtain ⟨us, u1, u2, u3⟩ := id hT5
            rw [u2] at hh5 ⊢
            obtain ⟨n1, n2, _⟩ := next_head u3 d hh5
            rw [← u1, hw5] at n1 n2
            exact ⟨n1 i hi, by omega⟩
          have ex : s'.w.getD (d + 1 + i) 0 = s'.w[d + 1 + i]'hnx.2 := by simp [List.getD, hnx.2]
          have hxb := hI5.nn _ (List.getElem_mem hnx.2)
          obtain ⟨bt', t1', _⟩ := hC5.toSl
          have hstI := hI5.step hW rfl ht hb (d + 1 + i) hnx.2
          have hstT := hT5.step hW rfl ht (d + 1 + i) hnx.2 fun x hx => (hI5.nn x hx).1
          rw [scanM_step W (hOf ts) W.length (d + 1 + i) s' hnx.2 (by omega)] at hsc5
          unfold stepM at hsc5 hstI hstT
          rw [if_neg (by rw [hnx.1]; simp)] at hsc5 hstI hstT
          simp only [T21b1, asCons_cons, asInt_int, asSlice_slice, asNil_nil]
          rw [wp_bif, if_pos (decide_eq_true (by omega)), wp_join, hx, wp_rdJ t1'.rdB.rd hnx.2, wp_call]
          refine wp_move45 hC5 (hF5.fr hf) hW ht hl hb (by omega) _ (by rw [ex]; exact hxb) fun σ6 pt6 ct6 pf6 cf6 pp6 cp6 hF6 hC6 => ?_
          obtain ⟨⟨X1, hp1⟩, X2, hp2⟩ := moveM_pre W (hOf ts) s' (s'.w.getD (d + 1 + i) 0)
          have hlen5 := hI5.len
          generalize moveM W (hOf ts) s' (s'.w.getD (d + 1 + i) 0) = mx at hC6 hsc5 hstI hstT hp1 hp2 ⊢
          have hM6 := hM5.frm hF6 fun hp hn => hn.2 ⟨hp, rfl⟩
          have hF06 : Frm σ σ6 NoB := hF5.fresh hF6 fun i hi h => by omega
          simp only [asTuple_tuple, asCons_cons, asInt_int, asSlice_slice, asNil_nil]
          have hxl : d + 1 + i < mx.1.w.length := by rw [hp2, List.length_append]; omega
          refine RC.setTo hC6 (d + 1 + i) hxl mx.2 fun σ7 hF7 hC7 => ?_
          rw [wp_ret]
          simp only [T21k1, sw_same, asCons_cons, asSlice_slice, asNil_nil]
          rw [wp_ret, ei]
          refine ⟨⟨mx.1.w.set (d + 1 + i) mx.2, mx.1.h, mx.1.m⟩, pt6, ct6, pf6, cf6, pp6, cp6, by simp, hF06.fresh hF7 fun i hi h => by omega, hC7, hstI, hstT, hM6.frm hF7 fun hp hn => hn.2 ⟨hp, rfl⟩, by simp only [List.length_set]; omega, ?_, ?_, ?_⟩
          · show mx.1.h.getD d false = true
            rw [hp1, getD_pre _ _ _ _ (by omega)]
            exact hh5
          · show (mx.1.w.set (d + 1 + i) mx.2).getD d 0 = _
            unfold List.getD
            rw [List.getElem?_set_ne (by omega), hp2, List.getElem?_append_left hd5]
            exact hw5
          · rw [hsc5, Nat.add_assoc (d + 1) i 1]
        · rintro st σ5 ⟨s', pt', ct', pf', cf', pp', cp', rfl, hF5, hC5, hI5, hT5, hM5, hd5, hh5, hw5, hsc5⟩
          have hrem5 := hI5.rem
          have hnx : d + 1 + (splitN (s.w.getD d 0)).toNat ≤ s'.w.length ∧ (d + 1 + (splitN (s.w.getD d 0)).toNat < s'.w.length → s'.h.getD (d + 1 + (splitN (s.w.getD d 0)).toNat) false = true) := by
            obtain ⟨us, u1, u2, u3⟩ := id hT5
            rw [u2] at hh5 ⊢
            obtain ⟨_, n2, n3⟩ := next_head u3 d hh5
            rw [← u1, hw5] at n2 n3
            exact ⟨n2, n3⟩
          generalize splitN (s.w.getD d 0) = sz at hnn hnx hsc5 ⊢
          have e1 : wi64 (wi64 ((d : Int) + sz) + 1) = ((d + 1 + sz.toNat : Nat) : Int) := by
            rw [wi64_in (n := (d : Int) + sz) (by omega), wi64_in (by omega)]
            omega
          simp only [T21b1, asCons_cons, asInt_int, asSlice_slice, asNil_nil]
          rw [wp_bif, if_neg (by simp; omega), wp_ret]
          simp only [T21k2, sw_same, asCons_cons, asInt_int, asSlice_slice, asNil_nil]
          rw [wp_ret]
          simp only [T21k3, sw_same, asCons_cons, asInt_int, asSlice_slice, asNil_nil]
          rw [wp_ret, e1]
          exact ⟨W.length - (d + 1 + sz.toNat), by omega, d + 1 + sz.toNat, s', pt', ct', pf', cf', pp', cp', rfl, rfl, hF5, hC5, hI5, hT5, hM5, hnx.2, hnx.1, hsc5⟩
      · rw [scanM_end W (hOf ts) _ d s (by omega)] at hsc
        rw [hsc] at hQ
        obtain ⟨hn0, hrp, bt, bf, bp, pl, t1, t2, t3, e, k1, k2, k3, d1, d2, d3, hE, hml⟩ := hC
        have a1' := hF4.stN a1
        rw [if_neg (by simp; omega), wp_ret]
        simp only [T21k4, sw_same, asCons_cons, asInt_int, asSlice_slice, asNil_nil, asSome_some]
        refine wp_st1Q a1' (by simp) rfl fun σ5 hF5 hn5 hS5 => ?_
        rw [wp_ldF hS5 rfl, asInt_int, wi64_in (by omega)]
        refine wp_st1Q hS5 (by simp) rfl fun σ6 hF6 hn6 hS6 => ?_
        rw [wp_ret]
        have hF46 : Frm σ4 σ6 (· = S) := hF5.seq hF6
        have hF : Frm σ σ6 (· = S) := hF4.trans hF46 (fun _ _ h => h.elim) fun _ _ h => h
        have hlt : pt ≠ none → bt < σ4.n := fun hp => by
          cases pt with
          | none => exact absurd rfl hp
          | some a => exact t1.lt
        refine ⟨_, rfl, hQ σ6 pm bm cm (hF.mono fun j _ e hy => (a5 j hy).1 e) (hM.frm hF46 fun hp e => by have := hbm' hp; omega) hbm' ⟨fun i hi => ?_, if pt = none then S else bt, pt, ct, hS6, ?_, fun hp => ?_, ?_, fun i hi => ?_⟩⟩
        · rcases hi with hi | hi
          · exact Nat.lt_of_lt_of_le (h0 i hi) hF.n
          · have := (hE i hi).2
            have := hF46.n
            omega
        · by_cases hp : pt = none
          · rcases t1 with ⟨e1, e2, e3⟩ | ⟨_, _, e1, _⟩
            · exact .inl ⟨e1, e2, e3⟩
            · rw [hp] at e1; cases e1
          · rw [if_neg hp]
            exact t1.frm hF46 fun _ e => by have := (k1 hp).1; omega
        · rw [if_neg hp]
          have := (k1 hp).1
          omega
        · by_cases hp : pt = none
          · rw [if_pos hp]
            exact Nat.lt_of_lt_of_le hS hF.n
          · rw [if_neg hp]
            exact Nat.lt_of_lt_of_le (hlt hp) hF46.n
        · have hiS : i ≠ S := by
            rcases hi with hi | hi
            · exact (a5 i hi).1
            · have := hbm' hi.1
              omega
          refine ⟨hiS, ?_⟩
          by_cases hp : pt = none
          · rw [if_pos hp]
            exact hiS
          · rw [if_neg hp]
            rcases hi with hi | hi
            · have := h0 i hi
              have := (k1 hp).1
              omega
            · intro e
              exact (k1 hp).2 (e ▸ hi)
end
end Go.Pg
