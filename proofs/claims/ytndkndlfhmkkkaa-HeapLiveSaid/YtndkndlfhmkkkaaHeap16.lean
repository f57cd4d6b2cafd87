/- Layer 12: the document's heap: Make, move. -/
import Derived.Test.YtndkndlfhmkkkaaHeap15
namespace Go.Pg
open Go.Proofs

theorem wp_rdN {P : Program} {ov : Ov} {σ : AHeap} {k : IntKind} {p : Option Addr} {l : List Int} {n : Nat} (h : RdI σ k p l) (hn : n = l.length) {j : Nat} (h1 : j < l.length) (f : Int → Pg) (Q : Post) :
    Wp P ov (asSome p fun a => grd (decide (0 ≤ ((j : Nat) : Int)) && decide (((j : Nat) : Int) < ((n : Nat) : Int))) (.act (ld1 (aadd a (Int.toNat ((j : Nat) : Int) * 1))) fun v => asInt k v f)) σ Q = Wp P ov (f (l.getD j 0)) σ Q := by
  subst hn
  exact wp_rdJ h h1 f Q
theorem chkO_two {σ : AHeap} {b c : Nat} {o q : Option AObj} (h : σ.get b = o) (k : σ.get c = q) : chkO [(b, o), (c, q)] σ = true := by
  unfold chkO chkO chkO
  rw [h, k, objEq_refl, objEq_refl]
  rfl
theorem look_find : ∀ (m : List (Int × Int)) (k : Int) (j : Nat) (hj : j < m.length), (∀ i (hi : i < m.length), i < j → m[i].1 ≠ k) → m[j].1 = k → look m k = some m[j].2
  | (a, p) :: r, k, j, hj, h, e => by
    unfold look
    cases j with
    | zero =>
      simp only [List.getElem_cons_zero] at e ⊢
      rw [if_pos e.symm]
    | succ j =>
      have h0 := h 0 (by simp) (by omega)
      simp only [List.getElem_cons_zero] at h0
      rw [if_neg fun e => h0 e.symm]
      simp only [List.getElem_cons_succ] at e ⊢
      exact look_find r k j (by simpa using hj) (fun i hi hij => by have := h (i + 1) (by simpa using hi) (by omega); simpa using this) e
theorem look_none' : ∀ (m : List (Int × Int)) (k : Int), (∀ i (hi : i < m.length), m[i].1 ≠ k) → look m k = none
  | [], _, _ => rfl
  | (a, p) :: r, k, h => by
    unfold look
    have h0 := h 0 (by simp)
    simp only [List.getElem_cons_zero] at h0
    rw [if_neg fun e => h0 e.symm]
    exact look_none' r k fun i hi => by have := h (i + 1) (by simpa using hi); simpa using this

section
variable {σ : AHeap} {S : Nat} {Y : Nat → Prop} {room tu : Int} {W : List Int} {ts : List (Int × List Int)}

theorem wp_makeR (h : RP σ S Y room tu W) (hW : W = wOf ts) (ht : ThOK ts) (hl : W.length ≤ 100000) (hb : ∀ x ∈ W, 0 ≤ x ∧ x < 18446744073709551616) {p : Option Addr} {c : Nat} {ws : List Int} (hr : OldR σ.old p c ws) (hw : ∀ w ∈ ws, 0 ≤ w ∧ w < 18446744073709551616) (hrm : 0 ≤ room ∧ room ≤ 65536) (hl2 : ws.length ≤ 100000) (kind tag : Int) {Q : Value → AHeap → Prop}
    (hQ : ∀ σ', Frm σ σ' (fun j => ¬ Y j) → RP σ' S Y room tu (makeM room W (hOf ts) kind tag ws).2.2.1 → Q (.tuple #[.int .u64 (makeM room W (hOf ts) kind tag ws).1, .int .i64 (makeM room W (hOf ts) kind tag ws).2.1]) σ') :
    WpF PROG ov0 16 [PV S, .int .i64 kind, .int .i64 tag, .slice p ws.length c] σ Q := by
  refine WpF.of (T16_eq _ _ _ _ _ _) rfl ?_
  rw [T16, wp_call, WpF.eq (ev_head40 _ _ _)]
  simp only [asTuple_tuple, asCons_cons, asInt_int, asBool_bool, asNil_nil]
  unfold makeM at hQ
  refine Wp.count ws.length (fun j st σ' => st = [.int .i64 ((j : Nat) : Int), .bool (hdB kind tag ws.length && (ws.take j).all (mayB (hOf ts)))] ∧ σ' = σ) ⟨by simp, rfl⟩ ?_ ?_
  · rintro j st σ1 hj ⟨rfl, rfl⟩
    have ej : wi64 ((j : Int) + 1) = ((j + 1 : Nat) : Int) := by rw [wi64_in (by omega)]; omega
    have eall : (ws.take (j + 1)).all (mayB (hOf ts)) = ((ws.take j).all (mayB (hOf ts)) && mayB (hOf ts) ws[j]) := by
      rw [take_succ' ws j hj, List.all_append]
      simp
    have e0 : ws.getD j 0 = ws[j] := by simp [List.getD, hj]
    simp only [T16b0, asCons_cons, asInt_int, asBool_bool, asNil_nil]
    rw [wp_bif, if_pos (by simp; omega), wp_join, wp_join, wp_bif, eall, ← Bool.and_assoc]
    cases hok : (hdB kind tag ws.length && (ws.take j).all (mayB (hOf ts))) with
    | true =>
      rw [if_pos (by rfl), wp_rdJ (hr.rd σ1 rfl) hj, e0, wp_call, WpF.eq (ev_word41 h hW ht hl hb _ (hw _ (List.getElem_mem hj))), asBool_bool, wp_ret]
      simp only [T16k0, sw_same, asCons_cons, asBool_bool, asNil_nil]
      rw [wp_ret]
      simp only [T16k1, sw_same, asCons_cons, asBool_bool, asNil_nil]
      rw [wp_ret, ej, Bool.true_and]
      exact ⟨rfl, rfl⟩
    | false =>
      rw [if_neg (by simp), wp_ret]
      simp only [T16k0, sw_same, asCons_cons, asBool_bool, asNil_nil]
      rw [wp_ret]
      simp only [T16k1, sw_same, asCons_cons, asBool_bool, asNil_nil]
      rw [wp_ret, ej, Bool.false_and]
      exact ⟨rfl, rfl⟩
  · rintro st σ1 ⟨rfl, rfl⟩
    rw [List.take_length]
    simp only [T16b0, asCons_cons, asInt_int, asBool_bool, asNil_nil]
    rw [wp_bif, if_neg (by simp), wp_ret]
    simp only [T16k2, sw_same, asCons_cons, asInt_int, asBool_bool, asNil_nil]
    rw [wp_bif]
    cases hok : (hdB kind tag ws.length && ws.all (mayB (hOf ts))) with
    | false =>
      have hbad : hdB kind tag ws.length = false ∨ ∃ w ∈ ws, mayB (hOf ts) w = false := by
        rw [Bool.and_eq_false_iff] at hok
        rcases hok with hok | hok
        · exact .inl hok
        · rw [List.all_eq_false] at hok
          obtain ⟨w, h1, h2⟩ := hok
          exact .inr ⟨w, h1, by simpa using h2⟩
      rw [if_pos hbad] at hQ
      rw [if_pos (by rfl), wp_ret]
      exact ⟨_, rfl, hQ σ1 (Frm.refl _ _) h⟩
    | true =>
      rw [Bool.and_eq_true, List.all_eq_true] at hok
      have hgood : ¬ (hdB kind tag ws.length = false ∨ ∃ w ∈ ws, mayB (hOf ts) w = false) := by
        rintro (e | ⟨w, hw', e⟩)
        · rw [hok.1] at e; cases e
        · rw [hok.2 w hw'] at e; cases e
      rw [if_neg hgood] at hQ
      obtain ⟨h0, cw, pw, capw, a1, a2, a3, a4, a5⟩ := id h
      have e1 : wi64 (((ws.length : Nat) : Int) + 1) = ((ws.length + 1 : Nat) : Int) := by rw [wi64_in (by omega)]; omega
      have e2 : wi64 (room - ((W.length : Nat) : Int)) = room - ((W.length : Nat) : Int) := wi64_in (by omega)
      rw [if_neg (by simp)]
      simp only [asSome_some]
      rw [wp_ldF a1 rfl, asInt_int, wp_ldF a1 rfl, asSlice_slice, wp_bif, e1, e2]
      by_cases hfit : (ws.length : Int) < room - (W.length : Nat)
      · rw [if_neg (by simpa using hfit)] at hQ
        rw [if_neg (by simp; omega), wp_ldF a1 rfl, asSlice_slice]
        refine wp_bd0 fun σ2 q hF2 hn2 hE => ?_
        rw [wp_ldF (hF2.stN a1) rfl, asSlice_slice]
        refine wp_appR hE rfl (a2.frm hF2 fun _ h => h) (by simp) (by omega) (by omega) fun σ3 b3 p3 c3 hF3 hb3 hR3 => ?_
        have hF13 : Frm σ1 σ3 NoB := hF2.fresh hF3 fun j hj h => by omega
        have hb3' : p3 ≠ none → σ1.n ≤ b3 := fun hp => by
          rcases hb3 with e | ⟨_, e⟩ | e
          · exact absurd e hp
          · omega
          · omega
        refine wp_app1 hR3 (by simp) rfl (by omega) (by omega) fun σ4 b4 o4 s4 c4 hF4 hb4 hR4 => ?_
        have hF14 : Frm σ1 σ4 NoB := hF13.fresh hF4 fun j hj h => by have := hb3' h.1; omega
        have hb4' : σ1.n ≤ b4 := by
          rcases hb4 with ⟨hp, e⟩ | e
          · rw [e]; exact hb3' hp
          · have := hF13.n
            omega
        refine wp_appF (.inr ⟨o4, s4, rfl, hR4⟩) (by simp) (hr.fst σ4 hF14.old) (ones_ints _ _) (by simp) (by omega) (by omega) fun σ5 b5 p5 c5 hF5 hb5 hR5 => ?_
        have hF15 : Frm σ1 σ5 NoB := hF14.fresh hF5 fun j hj h => by omega
        have hb5' : p5 ≠ none → σ1.n ≤ b5 := fun hp => by
          rcases hb5 with e | ⟨_, e⟩ | e
          · exact absurd e hp
          · omega
          · have := hF14.n
            omega
        refine wp_st1Q (hF15.stN a1) (by simp) rfl fun σ6 hF6 hn6 hS6 => ?_
        rw [wp_call, WpF.eq (ev_ptr42 _), asInt_int, wp_ret]
        have hp5 : p5 ≠ none := by
          rintro rfl
          rcases hR5 with ⟨_, _, e⟩ | ⟨_, _, e, _⟩
          · simp at e
          · cases e
        have hb5n := hb5' hp5
        have hSl := a1.1
        have hF : Frm σ1 σ6 (· = S) := hF15.trans hF6 (fun _ _ h => h.elim) fun _ _ h => h
        have el : (W ++ hdW kind tag ws.length :: ws).length = 0 + W.length + 1 + ws.length := by
          rw [List.length_append, List.length_cons]
          omega
        have ei : ints .u64 (W ++ hdW kind tag ws.length :: ws) = [] ++ ints .u64 W ++ [.int .u64 (hdW kind tag ws.length)] ++ ints .u64 ws := by simp [ints]
        have hlt5 : b5 < σ5.n := by
          cases p5 with
          | none => exact absurd rfl hp5
          | some a => exact hR5.lt
        refine ⟨_, rfl, hQ σ6 (hF.mono fun j _ e hy => (a5 j hy).1 e) ⟨fun i hi => Nat.lt_of_lt_of_le (h0 i hi) hF.n, b5, p5, c5, ?_, ?_, fun _ e => by omega, Nat.lt_of_lt_of_le hlt5 hF6.n, fun i hi => ⟨(a5 i hi).1, by have := h0 i hi; omega⟩⟩⟩
        · rw [el]
          exact hS6
        · rw [ei]
          exact hR5.frm hF6 fun _ e => by omega
      · rw [if_pos (by simpa using hfit)] at hQ
        rw [if_pos (by simp; omega), wp_ret]
        exact ⟨_, rfl, hQ σ1 (Frm.refl _ _) h⟩
end

/-- What stands while the document's collection goes on. -/
def RC (σ : AHeap) (N0 S : Nat) (E : Nat → Prop) (room tu : Int) (W : List Int) (s : CS) (pt : Option Addr) (ct : Nat) (pf : Option Addr) (cf : Nat) (pp : Option Addr) (cp : Nat) : Prop :=
  N0 ≤ σ.n ∧ RP σ S (fun i => N0 ≤ i ∧ i < σ.n) room tu W ∧ ∃ bt bf bp pl, SlV σ bt pt ct (ints .u64 s.w) ∧ SlV σ bf pf cf (ints .i64 (s.m.map (·.1))) ∧ SlV σ bp pp cp (ints .i64 pl) ∧ s.m.map (·.2) = pl.map ptrW ∧
    (pt ≠ none → N0 ≤ bt ∧ ¬ E bt) ∧ (pf ≠ none → N0 ≤ bf ∧ ¬ E bf) ∧ (pp ≠ none → N0 ≤ bp ∧ ¬ E bp) ∧ (pt ≠ none → pf ≠ none → bt ≠ bf) ∧ (pt ≠ none → pp ≠ none → bt ≠ bp) ∧ (pf ≠ none → pp ≠ none → bf ≠ bp) ∧ (∀ i, E i → N0 ≤ i ∧ i < σ.n) ∧ s.m.length ≤ s.w.length

section
variable {σ : AHeap} {N0 S : Nat} {E : Nat → Prop} {room tu : Int} {W : List Int} {s : CS} {pt pf pp : Option Addr} {ct cf cp : Nat} {ts : List (Int × List Int)}

theorem wp_move45 (h : RC σ N0 S E room tu W s pt ct pf cf pp cp) (hf : Fresh σ) (hW : W = wOf ts) (ht : ThOK ts) (hl : W.length ≤ 100000) (hb : ∀ x ∈ W, 0 ≤ x ∧ x < 18446744073709551616) (hsl : s.w.length ≤ 100000) (w : Int) (hw : 0 ≤ w ∧ w < 18446744073709551616) {Q : Value → AHeap → Prop}
    (hQ : ∀ σ' pt' ct' pf' cf' pp' cp', Frm σ σ' (fun j => N0 ≤ j ∧ ¬ E j) → RC σ' N0 S E room tu W (moveM W (hOf ts) s w).1 pt' ct' pf' cf' pp' cp' →
      Q (.tuple #[.int .u64 (moveM W (hOf ts) s w).2, .slice pt' (moveM W (hOf ts) s w).1.w.length ct', .slice pf' (moveM W (hOf ts) s w).1.m.length cf', .slice pp' (moveM W (hOf ts) s w).1.m.length cp']) σ') :
    WpF PROG ov0 45 [PV S, .int .u64 w, .slice pt s.w.length ct, .slice pf s.m.length cf, .slice pp s.m.length cp] σ Q := by
  obtain ⟨hn0, hrp, bt, bf, bp, pl, t1, t2, t3, e, k1, k2, k3, d1, d2, d3, hE, hml⟩ := id h
  have epl : s.m.length = pl.length := by have := congrArg List.length e; simpa using this
  refine WpF.of (T45_eq _ _ _ _ _ _ _ _ _ _ _) rfl ?_
  rw [T45, wp_call, WpF.eq (ev_thing44 hrp hW ht hl hb w hw)]
  simp only [asTuple_tuple, asCons_cons, asInt_int, asBool_bool, asNil_nil]
  unfold moveM at hQ
  rw [wp_bif]
  cases hp : plB (hOf ts) w with
  | false =>
    rw [hp] at hQ
    rw [if_pos (by rfl), wp_ret]
    exact ⟨_, rfl, hQ σ pt ct pf cf pp cp (Frm.refl _ _) h⟩
  | true =>
    rw [hp, if_pos rfl] at hQ
    have hh := plB_head hp
    have ha := atI_nn w hw.1
    obtain ⟨k, hk⟩ : ∃ k : Nat, atI w = (k : Int) := ⟨(atI w).toNat, by omega⟩
    rw [hk] at hQ hh
    simp only [Int.toNat_natCast] at hQ hh
    obtain ⟨_, q2⟩ := thing_at ts k ht hh
    rw [← hW] at q2
    have hnn := splitN_nn (W.getD k 0)
    simp only [if_true, hk, Int.toNat_natCast]
    rw [if_neg (by simp)]
    refine Wp.count s.m.length (fun j st σ' => st = [.int .i64 ((j : Nat) : Int), .slice none 0 0, .slice none 0 0, .slice none 0 0, .int .u64 0] ∧ σ' = σ ∧ ∀ i (hi : i < s.m.length), i < j → s.m[i].1 ≠ (k : Int)) ⟨rfl, rfl, fun i _ hi => by omega⟩ ?_ ?_
    · rintro j st σ1 hj ⟨rfl, rfl, hne⟩
      have ej : wi64 ((j : Int) + 1) = ((j + 1 : Nat) : Int) := by rw [wi64_in (by omega)]; omega
      have e0 : (s.m.map (·.1)).getD j 0 = s.m[j].1 := by simp [List.getD, hj]
      simp only [T45b0, asCons_cons, asInt_int, asSlice_slice, asNil_nil]
      rw [wp_bif, if_pos (by simp; omega), wp_join, wp_rdN t2.rdB.rd (by simp) (by simpa using hj), e0, wp_bif]
      by_cases hjk : s.m[j].1 = (k : Int)
      · have e1 : ptrW (pl.getD j 0) = s.m[j].2 := by
          have hjp : j < pl.length := by omega
          have x := congrArg (fun l => l[j]?) e
          simp only [List.getElem?_map, List.getElem?_eq_getElem hj, List.getElem?_eq_getElem hjp, Option.map_some, Option.some.injEq] at x
          rw [show pl.getD j 0 = pl[j] by simp [List.getD, hjp]]
          exact x.symm
        rw [look_find s.m k j hj hne hjk] at hQ
        simp only at hQ
        rw [if_pos (by simpa using hjk), wp_rdN t3.rdB.rd epl (by omega), wp_call, WpF.eq (ev_ptr42 _), asInt_int, wp_ret]
        simp only [T45k0, sw_same, asCons_cons, asInt_int, asSlice_slice, asNil_nil]
        rw [wp_ret]
        simp only [T45k1, sw_re, sw_same, asCons_cons, asInt_int, asSlice_slice, asNil_nil]
        rw [wp_ret, e1]
        exact ⟨_, rfl, hQ σ1 pt ct pf cf pp cp (Frm.refl _ _) h⟩
      · rw [if_neg (by simpa using hjk), wp_ret]
        simp only [T45k0, sw_nr, sw_same, asCons_cons, asInt_int, asSlice_slice, asNil_nil]
        rw [wp_ret, ej]
        refine ⟨rfl, rfl, fun i hi hij => ?_⟩
        by_cases e : i = j
        · subst e; exact hjk
        · exact hne i hi (by omega)
    · rintro st σ0 ⟨rfl, rfl, hne⟩
      rw [look_none' s.m k fun i hi => hne i hi hi] at hQ
      simp only at hQ
      simp only [T45b0, asCons_cons, asInt_int, asSlice_slice, asNil_nil]
      rw [wp_bif, if_neg (by simp), wp_ret]
      simp only [T45k1, sw_same, asCons_cons, asInt_int, asSlice_slice, asNil_nil, asSome_some]
      obtain ⟨h0, cw, pw, capw, a1, a2, a3, a4, a5⟩ := id hrp
      have hcap := a2.cap
      have hmc := a2.mayCut
      simp only [List.length_map] at hcap
      have ewk : W.getD k 0 :: (W.drop (k + 1)).take (splitN (W.getD k 0)).toNat = (W.drop k).take ((splitN (W.getD k 0)).toNat + 1) := by
        have hkl : k < W.length := by omega
        rw [List.drop_eq_getElem_cons hkl, List.take_succ_cons]
        simp [List.getD, hkl]
      rw [ewk] at hQ
      generalize splitN (W.getD k 0) = sz at q2 hnn hQ ⊢
      have e2 : wi64 (wi64 ((k : Int) + sz) + 1) = ((k + sz.toNat + 1 : Nat) : Int) := by
        rw [wi64_in (n := (k : Int) + sz) (by omega), wi64_in (by omega)]
        omega
      rw [wp_get, wp_ldF a1 rfl, asSlice_slice, e2, wp_grd]
      refine ⟨by simp [hmc]; omega, ?_⟩
      rw [wp_get, wp_grd]
      refine ⟨newN_ok (Nat.le_refl _) hf (fun b hb => by cases hb), ?_⟩
      rw [wp_act, bdSl_eq]
      simp only [asSlice_slice]
      have hF1 := Frm.new σ0 [.int .i64 (k : Int)] 1 NoB
      have hR1 := Row.new σ0 1 [.int .i64 (k : Int)] 1 (by decide) rfl (by intro x hx; simp at hx; subst hx; rfl)
      have hn1 : (σ0.newBlk [.int .i64 (k : Int)] 1).n = σ0.n + 1 := rfl
      generalize σ0.newBlk [.int .i64 (k : Int)] 1 = σ1 at hF1 hR1 hn1
      have hf1 := hF1.fr hf
      rw [wp_get, wp_get, wp_grd]
      refine ⟨newN_ok hF1.n hf1 (fun b hb => by simp at hb; omega), ?_⟩
      rw [wp_act, bdSl_eq]
      simp only [asSlice_slice]
      have hF2 := Frm.new σ1 [.int .i64 ((s.w.length : Nat) : Int)] 1 NoB
      have hR2 := Row.new σ1 1 [.int .i64 ((s.w.length : Nat) : Int)] 1 (by decide) rfl (by intro x hx; simp at hx; subst hx; rfl)
      have hn2 : (σ1.newBlk [.int .i64 ((s.w.length : Nat) : Int)] 1).n = σ1.n + 1 := rfl
      generalize σ1.newBlk [.int .i64 ((s.w.length : Nat) : Int)] 1 = σ2 at hF2 hR2 hn2
      have hF02 : Frm σ0 σ2 NoB := hF1.seq hF2
      have hR1' := hF2.rowN hR1
      have a1' := hF02.stN a1
      have hld : ld1 (aadd (PA S) 1) σ2 = some (.slice pw W.length capw, σ2) := a1'.ldF rfl
      have hg21 : σ2.get σ0.n = σ1.get σ0.n := hF2.get σ0.n (by omega) fun h => h
      rw [wp_get, wp_call, WpF.eq (ev_ptr42 _), asInt_int, wp_get, wp_grd]
      refine ⟨chks_one hld, ?_⟩
      rw [wp_get, wp_grd]
      refine ⟨chkO_two rfl hg21, ?_⟩
      rw [Int.toNat_natCast, Int.toNat_natCast, show k + sz.toNat + 1 - k = sz.toNat + 1 by omega]
      have hcut := ((a2.frm hF02 fun _ h => h).drop k (by simp; omega)).take (sz.toNat + 1)
      have ed : ((ints .u64 W).drop k).take (sz.toNat + 1) = ints .u64 ((W.drop k).take (sz.toNat + 1)) := by simp [ints, List.map_drop, List.map_take]
      rw [ed] at hcut
      have hlc : ((W.drop k).take (sz.toNat + 1)).length = sz.toNat + 1 := by
        rw [List.length_take, List.length_drop]
        omega
      refine wp_appR (t1.frm hF02 fun _ h => h) (by simp) hcut (by simp only [List.length_map]; exact hlc.symm) (by omega) (by omega) fun σ3 b3 p3 c3 hF3 hb3 hR3 => ?_
      have hg3a : σ3.get σ1.n = σ2.get σ1.n := hF3.get σ1.n (by omega) fun h => by
        cases pt with
        | none => exact h.1 rfl
        | some a => have := t1.lt; omega
      have hg3b : σ3.get σ0.n = σ2.get σ0.n := hF3.get σ0.n (by omega) fun h => by
        cases pt with
        | none => exact h.1 rfl
        | some a => have := t1.lt; omega
      rw [wp_get, wp_grd]
      refine ⟨chkO_two hg3a (hg3b.trans hg21), ?_⟩
      have hR1'' := hF3.row hR1' fun h => by
        cases pt with
        | none => exact h.1 rfl
        | some a => have := t1.lt; omega
      have hR2' := hF3.row hR2 fun h => by
        cases pt with
        | none => exact h.1 rfl
        | some a => have := t1.lt; omega
      have t2' := (t2.frm hF02 fun _ h => h).frm hF3 fun hq h => d1 h.1 hq h.2.symm
      have t3' := (t3.frm hF02 fun _ h => h).frm hF3 fun hq h => d2 h.1 hq h.2.symm
      refine wp_appR t2' (by simp) (.inr ⟨0, 1, rfl, hR1''⟩) rfl (by omega) (by omega) fun σ4 b4 p4 c4 hF4 hb4 hR4 => ?_
      have hlf : pf ≠ none → bf < σ0.n := fun hq => by
        cases pf with
        | none => exact absurd rfl hq
        | some a => exact t2.lt
      have hlt : pt ≠ none → bt < σ0.n := fun hq => by
        cases pt with
        | none => exact absurd rfl hq
        | some a => exact t1.lt
      have hlp : pp ≠ none → bp < σ0.n := fun hq => by
        cases pp with
        | none => exact absurd rfl hq
        | some a => exact t3.lt
      have hn3 := hF3.n
      have hn4 := hF4.n
      have hg4a : σ4.get σ1.n = σ3.get σ1.n := hF4.get σ1.n (by omega) fun h => by have := hlf h.1; omega
      rw [wp_get, wp_grd]
      refine ⟨chkO_one (hg4a.trans hg3a), ?_⟩
      have hR2'' := hF4.row hR2' fun h => by have := hlf h.1; omega
      have t3'' := t3'.frm hF4 fun hq h => d3 h.1 hq h.2.symm
      refine wp_appR t3'' (by simp [epl]) (.inr ⟨0, 1, rfl, hR2''⟩) rfl (by omega) (by omega) fun σ5 b5 p5 c5 hF5 hb5 hR5 => ?_
      have hn5 := hF5.n
      rw [wp_ret]
      have hne3 : p3 ≠ none := by
        rintro rfl
        rcases hR3 with ⟨_, _, e⟩ | ⟨_, _, e, _⟩
        · have := congrArg List.length e
          simp only [List.length_append, List.length_map, hlc, List.length_nil] at this
          omega
        · cases e
      have hne4 : p4 ≠ none := by
        rintro rfl
        rcases hR4 with ⟨_, _, e⟩ | ⟨_, _, e, _⟩
        · simp at e
        · cases e
      have hne5 : p5 ≠ none := by
        rintro rfl
        rcases hR5 with ⟨_, _, e⟩ | ⟨_, _, e, _⟩
        · simp at e
        · cases e
      have hl3 : b3 < σ3.n := by
        cases p3 with
        | none => exact absurd rfl hne3
        | some a => exact hR3.lt
      have hl4 : b4 < σ4.n := by
        cases p4 with
        | none => exact absurd rfl hne4
        | some a => exact hR4.lt
      have c3' : (pt ≠ none ∧ b3 = bt) ∨ σ2.n ≤ b3 := hb3.resolve_left hne3
      have c4' : (pf ≠ none ∧ b4 = bf) ∨ σ3.n ≤ b4 := hb4.resolve_left hne4
      have c5' : (pp ≠ none ∧ b5 = bp) ∨ σ4.n ≤ b5 := hb5.resolve_left hne5
      have hF03 : Frm σ0 σ3 (fun j => pt ≠ none ∧ j = bt) := hF02.trans hF3 (fun _ _ h => h.elim) fun _ _ h => h
      have hF04 : Frm σ0 σ4 (fun j => (pt ≠ none ∧ j = bt) ∨ (pf ≠ none ∧ j = bf)) := hF03.trans hF4 (fun _ _ h => .inl h) fun _ _ h => .inr h
      have hF05 : Frm σ0 σ5 (fun j => (pt ≠ none ∧ j = bt) ∨ (pf ≠ none ∧ j = bf) ∨ (pp ≠ none ∧ j = bp)) := hF04.trans hF5 (fun _ _ h => h.elim .inl fun h => .inr (.inl h)) fun _ _ h => .inr (.inr h)
      have hFE : Frm σ0 σ5 (fun j => N0 ≤ j ∧ ¬ E j) := hF05.mono fun j _ h => by
        rcases h with ⟨h1, rfl⟩ | ⟨h1, rfl⟩ | ⟨h1, rfl⟩
        · exact k1 h1
        · exact k2 h1
        · exact k3 h1
      have x34 : b3 ≠ b4 := by
        rcases c3' with ⟨h1, e1⟩ | h1
        · rcases c4' with ⟨h2, e2⟩ | h2
          · rw [e1, e2]; exact d1 h1 h2
          · have := hlt h1; omega
        · rcases c4' with ⟨h2, e2⟩ | h2
          · have := hlf h2; omega
          · omega
      have x35 : b3 ≠ b5 := by
        rcases c3' with ⟨h1, e1⟩ | h1
        · rcases c5' with ⟨h2, e2⟩ | h2
          · rw [e1, e2]; exact d2 h1 h2
          · have := hlt h1; omega
        · rcases c5' with ⟨h2, e2⟩ | h2
          · have := hlp h2; omega
          · omega
      have x45 : b4 ≠ b5 := by
        rcases c4' with ⟨h1, e1⟩ | h1
        · rcases c5' with ⟨h2, e2⟩ | h2
          · rw [e1, e2]; exact d3 h1 h2
          · have := hlf h1; omega
        · rcases c5' with ⟨h2, e2⟩ | h2
          · have := hlp h2; omega
          · omega
      have r3 := (hR3.frm hF4 fun _ h => by
        rcases c3' with ⟨h1, e1⟩ | h1
        · exact d1 h1 h.1 (by omega)
        · have := hlf h.1; omega).frm hF5 fun _ h => by
        rcases c3' with ⟨h1, e1⟩ | h1
        · exact d2 h1 h.1 (by omega)
        · have := hlp h.1; omega
      have r4 := hR4.frm hF5 fun _ h => by
        rcases c4' with ⟨h1, e1⟩ | h1
        · exact d3 h1 h.1 (by omega)
        · have := hlp h.1; omega
      have z1 : ints .u64 s.w ++ ints .u64 ((W.drop k).take (sz.toNat + 1)) = ints .u64 (s.w ++ (W.drop k).take (sz.toNat + 1)) := by simp [ints]
      have z2 : ints .i64 (s.m.map (·.1)) ++ [.int .i64 (k : Int)] = ints .i64 ((s.m ++ [((k : Int), ptrW s.w.length)]).map (·.1)) := by simp [ints]
      have z3 : ints .i64 pl ++ [.int .i64 ((s.w.length : Nat) : Int)] = ints .i64 (pl ++ [((s.w.length : Nat) : Int)]) := by simp [ints]
      rw [z1] at r3
      rw [z2] at r4
      rw [z3] at hR5
      have nE : ∀ b, σ0.n ≤ b → N0 ≤ b ∧ ¬ E b := fun b hb' => ⟨by omega, fun he => by have := (hE b he).2; omega⟩
      have hq := hQ σ5 p3 c3 p4 c4 p5 c5 hFE ⟨Nat.le_trans hn0 hFE.n, hrp.step hFE (fun i hi h => ⟨h.1, hi⟩) fun i hi => ⟨hi.2, by omega⟩, b3, b4, b5, pl ++ [((s.w.length : Nat) : Int)], r3, r4, hR5, by simp [e], fun _ => ?_, fun _ => ?_, fun _ => ?_, fun _ _ => x34, fun _ _ => x35, fun _ _ => x45, fun i hi => ⟨(hE i hi).1, Nat.lt_of_lt_of_le (hE i hi).2 hFE.n⟩, ?_⟩
      · simp only [List.length_append, hlc, List.length_singleton] at hq
        exact ⟨_, rfl, hq⟩
      · rcases c3' with ⟨h1, e1⟩ | h1
        · rw [e1]; exact k1 h1
        · exact nE _ (by omega)
      · rcases c4' with ⟨h1, e1⟩ | h1
        · rw [e1]; exact k2 h1
        · exact nE _ (by omega)
      · rcases c5' with ⟨h1, e1⟩ | h1
        · rw [e1]; exact k3 h1
        · exact nE _ (by omega)
      · simp only [List.length_append, hlc, List.length_singleton]
        omega
end
end Go.Pg
