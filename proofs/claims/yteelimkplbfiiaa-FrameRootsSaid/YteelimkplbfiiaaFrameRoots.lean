/- Layer 17: words that are set anew stand where the old ones stood: the law's tree returns true for all calls and words. -/
import Derived.Test.YteelimkplbfiiaaFrame5
import Derived.Test.YteelimkplbfiiaaFAwake
namespace Go.Pg
open Go.Proofs
section
variable {σ : AHeap} {S room : Nat} {Y : Nat → Prop} {vs : List Fv} {v : Fv}

theorem snoc_cases {α : Type} (l : List α) : l = [] ∨ ∃ a x, l = a ++ [x] := by
  rcases List.eq_nil_or_concat l with h | ⟨a, x, h⟩
  · exact .inl h
  · exact .inr ⟨a, x, by simpa using h⟩

theorem getD_snoc (A : List Int) (x : Int) : (A ++ [x]).getD A.length 0 = x := by simp [List.getD]

theorem wp_pushAny (h : Stk σ S room Y vs) (back call n : Int) {Q : Value → AHeap → Prop} (hQ : ∀ e σ' vs', σ'.old = σ.old → Stk σ' S room Y vs' → vs'.length ≤ vs.length + 1 → Q (.int .i64 e) σ') :
    WpF PROG ov0 9 [PV S, .int .i64 back, .int .i64 call, .int .i64 n] σ Q := by
  by_cases hn : n < 0
  · rw [WpF.eq (ev_push_neg S back call n hn)]
    exact hQ _ σ vs rfl h (by omega)
  · obtain ⟨m, rfl⟩ : ∃ m : Nat, n = (m : Int) := ⟨n.toNat, by omega⟩
    by_cases hm : tot vs + 2 + m ≤ room
    · exact wp_pushK h back call m hm fun σ' hF h' => hQ _ σ' _ hF.old h' (by simp)
    · rw [WpF.eq (ev_push_full h back call m hm)]
      exact hQ _ σ vs rfl h (by omega)

theorem wp_popAny (h : Stk σ S room Y vs) {Q : Value → AHeap → Prop} (hQ : ∀ a b e σ' vs', σ'.old = σ.old → Stk σ' S room Y vs' → vs'.length ≤ vs.length → Q (.tuple #[.int .i64 a, .int .i64 b, .int .i64 e]) σ') : WpF PROG ov0 14 [PV S] σ Q := by
  rcases snoc_cases vs with rfl | ⟨vs0, v, rfl⟩
  · rw [WpF.eq (ev_pop_none h)]
    exact hQ _ _ _ σ _ rfl h (by omega)
  · exact wp_popK h fun σ' hF h' => hQ _ _ _ σ' _ hF.old h' (by simp)

theorem wp_setAny (h : Stk σ S room Y vs) (i w : Int) {Q : Value → AHeap → Prop} (hQ : ∀ e σ' vs', σ'.old = σ.old → Stk σ' S room Y vs' → vs'.length ≤ vs.length → Q (.int .i64 e) σ') : WpF PROG ov0 11 [PV S, .int .i64 i, .int .u64 w] σ Q := by
  rcases snoc_cases vs with rfl | ⟨vs0, v, rfl⟩
  · rw [WpF.eq (ev_set_none h i w)]
    exact hQ _ σ _ rfl h (by omega)
  · by_cases hi : 0 ≤ i ∧ i < (v.sl.length : Nat)
    · obtain ⟨m, rfl⟩ : ∃ m : Nat, i = (m : Int) := ⟨i.toNat, by omega⟩
      exact wp_setK h m w (by omega) fun σ' hF h' => hQ _ σ' _ hF.old h' (by simp)
    · rw [WpF.eq (ev_set_out h i w hi)]
      exact hQ _ σ _ rfl h (by omega)

theorem wp_addAny (h : Stk σ S room Y vs) (w : Int) {Q : Value → AHeap → Prop} (hQ : ∀ e σ' vs', σ'.old = σ.old → Stk σ' S room Y vs' → vs'.length ≤ vs.length → Q (.int .i64 e) σ') : WpF PROG ov0 10 [PV S, .int .u64 w] σ Q := by
  rcases snoc_cases vs with rfl | ⟨vs0, v, rfl⟩
  · rw [WpF.eq (ev_add_none h w)]
    exact hQ _ σ _ rfl h (by omega)
  · by_cases hr : tot (vs0 ++ [v]) < room
    · exact wp_addK h hr w fun σ' hF h' => hQ _ σ' _ hF.old h' (by simp)
    · rw [WpF.eq (ev_add_full h hr w)]
      exact hQ _ σ _ rfl h (by omega)

theorem wp_cl {P : Program} {ov : Ov} {old : Addr → Option Value} {a : Addr} {v : Value} (h : Cl old a v) {σ : AHeap} (ho : σ.old = old) (g : Value → Pg) (Q : Post) : Wp P ov (.act (ld1 a) g) σ Q = Wp P ov (g v) σ Q := by
  rw [wp_act, h σ ho]

theorem wp_grdJ {P : Program} {ov : Ov} {σ : AHeap} {j n : Nat} (h : j < n) (p : Pg) (Q : Post) : Wp P ov (grd (decide (0 ≤ ((j : Nat) : Int)) && decide (((j : Nat) : Int) < ((n : Nat) : Int))) p) σ Q = Wp P ov p σ Q := by
  have e : (decide (0 ≤ ((j : Nat) : Int)) && decide (((j : Nat) : Int) < ((n : Nat) : Int))) = true := by simp; omega
  rw [wp_grd, e]
  simp

abbrev shAct : Sh := .fld 0 (.int .i64) (.fld 1 (.int .i64) (.fld 2 (.int .i64) (.fld 3 (.int .i64) (.fld 4 (.int .u64) (.fld 5 (.row 1 (.int .u64)) .fin)))))

/-- The pops: all come back, the last first. -/
theorem wp_pops {pm : Option Addr} {M cap : Nat} (h : Stk σ S 500 (fun i => pm ≠ none ∧ i = M) vs) (hm : RdB σ M .u64 pm (flat vs)) (hc : (flat vs).length ≤ cap) (hd : vs.length ≤ 60) :
    Wp PROG ov0 (.loop [.slice pm (flat vs).length cap, .bool false] (T4b3 (some (PA S))) (T4k12)) σ fun _ w _ => ∃ x, w = [x] ∧ x = .bool true := by
  have hpm : ∀ l : List Int, ∀ σ, RdB σ M .u64 pm l → l ≠ [] → ¬ ¬ (pm ≠ none ∧ M = M) := fun l σ h hl hn => hn ⟨by obtain ⟨_, off, s, rfl⟩ := h.at' hl; simp, rfl⟩
  refine Wp.count vs.length (fun j st σ' => ∃ us, us.length + j = vs.length ∧ st = [.slice pm (flat us).length cap, .bool false] ∧ Stk σ' S 500 (fun i => pm ≠ none ∧ i = M) us ∧ RdB σ' M .u64 pm (flat us) ∧ (flat us).length ≤ cap)
    ⟨vs, rfl, rfl, h, hm, hc⟩ ?_ ?_
  · rintro j st σ1 hj ⟨us, hul, rfl, hS1, hm1, hc1⟩
    rcases snoc_cases us with rfl | ⟨us, u, rfl⟩
    · simp at hul; omega
    have hfit := hS1.fit
    simp only [T4b3, asCons_cons, asSlice_slice, asBool_bool, asNil_nil]
    rw [wp_call, WpF.eq (ev_depthK hS1), asInt_int, wp_bif, if_pos (by simp), wp_join, wp_call, WpF.eq (ev_addedK hS1), asInt_int]
    have hfu : (flat (us ++ [u])).length = (flat us).length + u.sl.length + u.ad.length := by rw [flat_snoc]; simp; omega
    have hfl := flat_len (us ++ [u])
    refine Wp.count u.ad.length (fun i st σ' => st = [.int .i64 ((u.ad.length : Int) - i), .slice pm ((flat us).length + u.sl.length + (u.ad.length - i)) cap, .bool false] ∧ Stk σ' S 500 (fun i => pm ≠ none ∧ i = M) (us ++ [⟨u.back, u.call, u.sl, u.ad.take (u.ad.length - i)⟩]) ∧ RdB σ' M .u64 pm (flat us ++ (u.sl ++ u.ad.take (u.ad.length - i)))) ?_ ?_ ?_
    · refine ⟨by simp; rw [flat_snoc]; simp; omega, by simpa using hS1, ?_⟩
      rw [flat_snoc] at hm1
      simpa using hm1
    · rintro i st σ2 hi ⟨rfl, hS2, hm2⟩
      obtain ⟨k, hk⟩ : ∃ k, u.ad.length = k + 1 + i := ⟨u.ad.length - 1 - i, by omega⟩
      have e1 : u.ad.length - i = k + 1 := by omega
      have e2 : u.ad.length - (i + 1) = k := by omega
      have e3 : (u.ad.length : Int) - i = ((k + 1 : Nat) : Int) := by omega
      have e4 : (u.ad.length : Int) - ((i + 1 : Nat) : Int) = (k : Int) := by omega
      have et : u.ad.take (k + 1) = u.ad.take k ++ [u.ad[k]] := List.take_succ_eq_append_getElem (by omega)
      rw [e1, et] at hS2 hm2
      rw [e1, e2, e3, e4]
      have e5 : wi64 ((((flat us).length + u.sl.length + (k + 1) : Nat) : Int) - 1) = (((flat us).length + u.sl.length + k : Nat) : Int) := by rw [wi64_in (by omega)]; omega
      have e6 : wi64 (((k + 1 : Nat) : Int) - 1) = ((k : Nat) : Int) := by rw [wi64_in (by omega)]; omega
      simp only [T4b2, asCons_cons, asInt_int, asSlice_slice, asBool_bool, asNil_nil]
      rw [wp_bif, if_pos (by simp), wp_join, wp_call]
      refine wp_takeK hS2 rfl fun σ3 hF3 hS3 => ?_
      have hm3 := hm2.frm hF3 fun hl => hpm _ _ hm2 hl
      simp only [asTuple_tuple, asCons_cons, asInt_int, asNil_nil]
      rw [wp_join, wp_bif, if_pos (by rfl), wp_bif, if_pos (by simp; omega), e5]
      have hln : (flat us ++ (u.sl ++ (u.ad.take k ++ [u.ad[k]]))).length = (flat us).length + u.sl.length + (k + 1) := by simp; omega
      have hgd : (flat us ++ (u.sl ++ (u.ad.take k ++ [u.ad[k]]))).getD ((flat us).length + u.sl.length + k) 0 = u.ad[k] := by
        have ea : flat us ++ (u.sl ++ (u.ad.take k ++ [u.ad[k]])) = (flat us ++ (u.sl ++ u.ad.take k)) ++ [u.ad[k]] := by simp
        have el : (flat us ++ (u.sl ++ u.ad.take k)).length = (flat us).length + u.sl.length + k := by simp; omega
        rw [ea, ← el]
        exact getD_snoc _ _
      have hrd := wp_rdJ (P := PROG) (ov := ov0) hm3.rd (j := (flat us).length + u.sl.length + k) (by omega)
      rw [hln, hgd] at hrd
      rw [hrd, wp_ret]
      simp only [T4k6, sw_same, asCons_cons, asBool_bool, asNil_nil]
      rw [wp_bif, if_neg (by simp), wp_grd, e5]
      refine ⟨by simp; omega, ?_⟩
      rw [Int.toNat_natCast, wp_ret]
      simp only [T4k7, sw_nr, sw_same, asCons_cons, asSlice_slice, asBool_bool, asNil_nil]
      rw [wp_ret, e6]
      refine ⟨rfl, hS3, ?_⟩
      have := hm3.take ((flat us).length + u.sl.length + k)
      have ea : (flat us ++ (u.sl ++ (u.ad.take k ++ [u.ad[k]]))).take ((flat us).length + u.sl.length + k) = flat us ++ (u.sl ++ u.ad.take k) := by
        have ea : flat us ++ (u.sl ++ (u.ad.take k ++ [u.ad[k]])) = (flat us ++ (u.sl ++ u.ad.take k)) ++ [u.ad[k]] := by simp
        have el : (flat us ++ (u.sl ++ u.ad.take k)).length = (flat us).length + u.sl.length + k := by simp; omega
        rw [ea, ← el, List.take_left]
      rw [ea] at this
      exact this
    · rintro st σ2 ⟨rfl, hS2, hm2⟩
      simp only [Nat.sub_self, List.take_zero, Int.sub_self, Nat.add_zero, List.append_nil] at hS2 hm2 ⊢
      have hfe : flat (us ++ [⟨u.back, u.call, u.sl, []⟩]) = flat us ++ u.sl := by rw [flat_snoc]; simp
      have e7 : wi64 ((((flat us ++ u.sl).length : Nat) : Int) - (((flat us).length : Nat) : Int)) = ((u.sl.length : Nat) : Int) := by rw [List.length_append, wi64_in (by omega)]; omega
      have e8 : wi64 ((((flat us).length + u.sl.length : Nat) : Int) - ((u.sl.length : Nat) : Int)) = (((flat us).length : Nat) : Int) := by rw [wi64_in (by omega)]; omega
      simp only [T4b2, asCons_cons, asInt_int, asSlice_slice, asBool_bool, asNil_nil]
      rw [wp_bif, if_neg (by simp), wp_ret]
      simp only [T4k10, sw_same, asCons_cons, asInt_int, asSlice_slice, asBool_bool, asNil_nil]
      rw [wp_call]
      refine wp_rootsK hS2 fun σ3 _ _ _ hF3 _ _ => ?_
      have hS3 := hS2.step (Y' := fun i => pm ≠ none ∧ i = M) hF3 (fun i _ h => h.elim) fun i hi => ⟨Nat.lt_of_lt_of_le (hS2.1 i hi) hF3.n, .inl hi⟩
      have hm3 := hm2.frm hF3 fun _ h => h
      rw [hfe, asSlice_slice, wp_call]
      refine wp_popK hS3 fun σ4 hF4 hS4 => ?_
      have hm4 := hm3.frm hF4 fun hl => hpm _ _ hm3 hl
      simp only [asTuple_tuple, asCons_cons, asInt_int, asNil_nil]
      have hus : us.length + 1 ≤ vs.length := by simp at hul; omega
      rw [wp_join, wp_bif, if_pos (by rfl), wp_call, WpF.eq (ev_depthK hS4), asInt_int, wp_ret]
      simp only [T4k9, sw_same, asCons_cons, asBool_bool, asNil_nil]
      rw [wp_bif, if_neg (by simp; omega), wp_call]
      refine wp_rootsK hS4 fun σ5 _ _ _ hF5 _ _ => ?_
      have hS5 := hS4.step (Y' := fun i => pm ≠ none ∧ i = M) hF5 (fun i _ h => h.elim) fun i hi => ⟨Nat.lt_of_lt_of_le (hS4.1 i hi) hF5.n, .inl hi⟩
      have hm5 := hm4.frm hF5 fun _ h => h
      rw [asSlice_slice, e7, wp_join, wp_bif, if_pos (by simp), wp_ret]
      simp only [T4k8, sw_same, asCons_cons, asBool_bool, asNil_nil]
      rw [wp_bif, if_neg (by simp; omega), wp_grd, e7, e8]
      refine ⟨by simp; omega, ?_⟩
      rw [Int.toNat_natCast, wp_ret]
      simp only [T4k11, sw_nr, sw_same, asCons_cons, asSlice_slice, asBool_bool, asNil_nil]
      rw [wp_ret]
      have := hm5.take (flat us).length
      rw [List.take_left] at this
      refine ⟨us, by simp at hul; omega, rfl, hS5, this, by omega⟩
  · rintro st σ1 ⟨us, hul, rfl, hS1, hm1, hc1⟩
    have hu : us = [] := by
      cases us with
      | nil => rfl
      | cons u us => simp at hul
    subst hu
    simp only [T4b3, asCons_cons, asSlice_slice, asBool_bool, asNil_nil]
    rw [wp_call, WpF.eq (ev_depthK hS1), asInt_int, wp_bif, if_neg (by simp), wp_ret]
    simp only [T4k12, sw_same, asCons_cons, asSlice_slice, asBool_bool, asNil_nil]
    rw [wp_ret]
    exact ⟨_, rfl, rfl⟩

theorem frameRoots_law (p0 : Option Addr) (n2 : Nat) (l : List shAct.D) (a3 : Int) (_ : (Lit.int .u64 a3).wf = true) (old : Addr → Option Value) (rd : RdR old 6 shAct p0 l) (_ : (Sh.row 6 shAct).ok l) :
    WpF PROG ov0 4 [.slice p0 l.length n2, .int .u64 a3] (startH old) fun v _ => v = .bool true := by
  refine WpF.of (T4_eq _ _ _ _) rfl ?_
  rw [T4, wp_call]
  refine wp_awake17 _ fun σ0 hF0 => ?_
  have ho0 : σ0.old = old := hF0.old
  simp only [asBool_bool]
  rw [wp_bif, if_neg (by simp), wp_bif]
  by_cases h40 : l.length > 40
  · rw [if_pos (by simp; omega), wp_ret]
    exact ⟨_, rfl, rfl⟩
  rw [if_neg (by simp; omega), wp_call]
  refine wp_newK (Y := NoB) 500 (by omega) (fun i hi => hi.elim) fun σ1 hF1 h1 => ?_
  have ho1 := hF1.old.trans ho0
  generalize σ0.n = S at h1
  simp only [asTuple_tuple, asCons_cons, asPtr_ptr, asInt_int, asNil_nil]
  refine Wp.count l.length (fun j st σ' => st = [.int .i64 ((j : Nat) : Int)] ∧ σ'.old = old ∧ ∃ us, us.length ≤ j ∧ Stk σ' S 500 NoB us) ⟨rfl, ho1, [], by simp, h1⟩ ?_ ?_
  · rintro j st σ2 hj ⟨rfl, ho2, us, hul, h2⟩
    have ej : wi64 ((j : Int) + 1) = ((j + 1 : Nat) : Int) := by rw [wi64_in (by omega)]; omega
    obtain ⟨x, rfl, r0, r1, r2, r3, r4, _⟩ := rd j hj
    generalize l[j] = d at r0 r1 r2 r3 r4
    obtain ⟨op, a, b, n, w, ll, _⟩ := d
    simp only at r0 r1 r2 r3 r4
    have key : ∀ σ3 us3, σ3.old = old → us3.length ≤ j + 1 → Stk σ3 S 500 NoB us3 → Wp PROG ov0 (.ret .normal [.int .i64 (wi64 ((j : Int) + 1))]) σ3 fun e st' σ' => match e with
        | .normal => st' = [.int .i64 ((j + 1 : Nat) : Int)] ∧ σ'.old = old ∧ ∃ us, us.length ≤ j + 1 ∧ Stk σ' S 500 NoB us
        | e => Wp PROG ov0 (T4k15 (some (PA S)) a3 e st') σ' fun _ vs σ' => ∃ v, vs = [v] ∧ v = .bool true := by
      intro σ3 us3 h3 hl3 hS3
      rw [wp_ret, ej]
      exact ⟨rfl, h3, us3, hl3, hS3⟩
    simp only [T4b0, asCons_cons, asInt_int, asNil_nil, asSome_some]
    rw [wp_bif, if_pos (by simp; omega), wp_join, wp_grdJ hj, Int.toNat_natCast, wp_cl r0 ho2, asInt_int, wp_join, wp_join, wp_bif]
    by_cases h0 : op = 0
    · rw [if_pos (by simp [h0]), wp_grdJ hj, wp_cl r1 ho2, asInt_int, wp_grdJ hj, wp_cl r2 ho2, asInt_int, wp_grdJ hj, wp_cl r3 ho2, asInt_int, wp_call]
      refine wp_pushAny h2 a b n fun e σ3 us3 h3 hS3 hl3 => ?_
      rw [asInt_int, wp_ret]
      simp only [T4k2, sw_same, asNil_nil]
      rw [wp_ret]
      simp only [T4k3, sw_same, asNil_nil]
      rw [wp_ret]
      simp only [T4k4, sw_same, asNil_nil]
      exact key σ3 us3 (h3.trans ho2) (by omega) hS3
    · rw [if_neg (by simp [h0]), wp_join, wp_bif]
      by_cases h1 : op = 1
      · rw [if_pos (by simp [h1]), wp_call]
        refine wp_popAny h2 fun _ _ _ σ3 us3 h3 hS3 hl3 => ?_
        simp only [asTuple_tuple, asCons_cons, asInt_int, asNil_nil]
        rw [wp_ret]
        simp only [T4k1, sw_same, asNil_nil]
        rw [wp_ret]
        simp only [T4k2, sw_same, asNil_nil]
        rw [wp_ret]
        simp only [T4k3, sw_same, asNil_nil]
        rw [wp_ret]
        simp only [T4k4, sw_same, asNil_nil]
        exact key σ3 us3 (h3.trans ho2) (by omega) hS3
      · rw [if_neg (by simp [h1]), wp_join, wp_bif]
        by_cases h2' : op = 2
        · rw [if_pos (by simp [h2']), wp_grdJ hj, wp_cl r3 ho2, asInt_int, wp_grdJ hj, wp_cl r4 ho2, asInt_int, wp_call]
          refine wp_setAny h2 n w fun e σ3 us3 h3 hS3 hl3 => ?_
          rw [asInt_int, wp_ret]
          simp only [T4k0, sw_same, asNil_nil]
          rw [wp_ret]
          simp only [T4k1, sw_same, asNil_nil]
          rw [wp_ret]
          simp only [T4k2, sw_same, asNil_nil]
          rw [wp_ret]
          simp only [T4k3, sw_same, asNil_nil]
          rw [wp_ret]
          simp only [T4k4, sw_same, asNil_nil]
          exact key σ3 us3 (h3.trans ho2) (by omega) hS3
        · rw [if_neg (by simp [h2']), wp_grdJ hj, wp_cl r4 ho2, asInt_int, wp_call]
          refine wp_addAny h2 w fun e σ3 us3 h3 hS3 hl3 => ?_
          rw [asInt_int, wp_ret]
          simp only [T4k0, sw_same, asNil_nil]
          rw [wp_ret]
          simp only [T4k1, sw_same, asNil_nil]
          rw [wp_ret]
          simp only [T4k2, sw_same, asNil_nil]
          rw [wp_ret]
          simp only [T4k3, sw_same, asNil_nil]
          rw [wp_ret]
          simp only [T4k4, sw_same, asNil_nil]
          exact key σ3 us3 (h3.trans ho2) (by omega) hS3
  · rintro st σ2 ⟨rfl, ho2, us, hul, h2⟩
    have hfit := h2.fit
    have hfl := flat_len us
    have hlt2 : ∀ σ' (b : Nat) (p : Option Addr) cap (xs : List Value), SlV σ' b p cap xs → p ≠ none → b < σ'.n := by
      intro σ' b p cap xs h hp
      cases p with
      | none => exact absurd rfl hp
      | some a => exact h.lt
    simp only [T4b0, asCons_cons, asInt_int, asNil_nil]
    rw [wp_bif, if_neg (by simp), wp_ret]
    simp only [T4k15, sw_same, asCons_cons, asInt_int, asNil_nil]
    rw [wp_call]
    refine wp_rootsK h2 fun σ3 b3 p3 c3 hF3 hR3 hb3 => ?_
    rw [asSlice_slice, wp_call]
    refine wp_words17 (fun σ' hF => (hR3.rdB.frm hF fun _ h => h).rd) (by omega) c3 fun σ4 b4 p4 c4 hF4 hR4 hb4 => ?_
    rw [asSlice_slice]
    have hF24 : Frm σ2 σ4 NoB := hF3.seq hF4
    obtain ⟨ml, hml⟩ : ∃ ml : List Int, ml = (flat us).map fun x => wu64 (x + a3) := ⟨_, rfl⟩
    have hmll : ml.length = (flat us).length := by rw [hml]; simp
    refine Wp.count (flat us).length (fun j st σ' => ∃ q qcap b, st = [.int .i64 ((j : Nat) : Int), .slice q j qcap] ∧ Frm σ4 σ' NoB ∧ SlV σ' b q qcap (ints .u64 (ml.take j)) ∧ (q ≠ none → σ4.n ≤ b)) ⟨none, 0, 0, rfl, Frm.refl _ _, .inl ⟨rfl, rfl, by simp⟩, fun h => absurd rfl h⟩ ?_ ?_
    · rintro j st σ5 hj ⟨q, qcap, b, rfl, hF5, hq, hqb⟩
      have ej : wi64 ((j : Int) + 1) = ((j + 1 : Nat) : Int) := by rw [wi64_in (by omega)]; omega
      simp only [T4b1, asCons_cons, asInt_int, asSlice_slice, asNil_nil]
      rw [wp_bif, if_pos (by simp; omega), wp_join, wp_rdJ (hR4.rdB.frm hF5 fun _ h => h).rd hj]
      refine wp_app1 hq (by simp; omega) rfl (by omega) (by omega) fun σ6 b6 off s c6 hF6 hb6 hR6 => ?_
      rw [wp_ret]
      simp only [T4k5, sw_same, asCons_cons, asSlice_slice, asNil_nil]
      rw [wp_ret, ej]
      have e := ints_take_succ .u64 ml j (by omega)
      have e2 : ml.getD j 0 = wu64 ((flat us).getD j 0 + a3) := by rw [hml]; simp [List.getD, hj]
      rw [e2] at e
      refine ⟨_, c6, b6, rfl, hF5.fresh hF6 fun i hi h => by have := hqb h.1; omega, ?_, fun _ => ?_⟩
      · rw [e]
        exact .inr ⟨off, s, rfl, hR6⟩
      · rcases hb6 with ⟨hb6, rfl⟩ | hb6
        · exact hqb hb6
        · have := hF5.n
          omega
    · rintro st σ5 ⟨pm, cm, M, rfl, hF5, hq, hqb⟩
      rw [← hmll, List.take_length] at hq
      rw [← hmll]
      have hF25 : Frm σ2 σ5 NoB := hF24.seq hF5
      simp only [T4b1, asCons_cons, asInt_int, asSlice_slice, asNil_nil]
      rw [wp_bif, if_neg (by simp), wp_ret]
      simp only [T4k14, sw_same, asCons_cons, asInt_int, asSlice_slice, asNil_nil]
      rw [wp_join, wp_call]
      refine wp_back19 (fun σ' hF => (hq.rdB.frm hF fun _ h => h).rd) (by omega) cm fun σ6 R pR cR hF6 hR6 hRb => ?_
      have hF26 : Frm σ2 σ6 NoB := hF25.seq hF6
      have hn2 := hF24.n
      have hn5 := hF5.n
      have hn6 := hF6.n
      have hq6 := hq.frm hF6 fun _ h => h
      have hS6 := h2.step (Y' := fun i => (pm ≠ none ∧ i = M) ∨ (pR ≠ none ∧ i = R)) hF26 (fun i _ h => h.elim) fun i hi => by
        rcases hi with ⟨hp, rfl⟩ | ⟨hp, rfl⟩
        · exact ⟨hlt2 _ _ _ _ _ hq6 hp, .inr (by have := hqb hp; omega)⟩
        · exact ⟨hlt2 _ _ _ _ _ hR6 hp, .inr (by have := hRb hp; have := hF25.n; omega)⟩
      rw [asSlice_slice, wp_call]
      refine wp_renewK hS6 hR6 (fun hp => .inr ⟨hp, rfl⟩) (by rw [hmll]) fun σ7 vs' hF7 hS7 hfv hvl => ?_
      have hq7 := hq6.frm hF7 fun hp hn => hn (.inl ⟨hp, rfl⟩)
      rw [asInt_int, wp_bif, if_pos (by rfl), wp_call]
      refine wp_rootsK hS7 fun σ8 b8 p8 c8 hF8 hR8 hb8 => ?_
      rw [hfv] at hR8 ⊢
      rw [asSlice_slice, wp_call]
      refine wp_words17 (fun σ' hF => (hR8.rdB.frm hF fun _ h => h).rd) (by omega) c8 fun σ9 b9 p9 c9 hF9 hR9 hb9 => ?_
      have hF79 : Frm σ7 σ9 NoB := hF8.seq hF9
      have hq9 := hq7.frm hF79 fun _ h => h
      rw [asSlice_slice, wp_call, WpF.eq (ev_same20 hR9.rdB.rd hq9.rdB.rd (by omega) c9 cm), asBool_bool, wp_bif, if_pos (by rfl)]
      have hS9 := hS7.step (Y' := fun i => pm ≠ none ∧ i = M) hF79 (fun i _ h => h.elim) fun i hi => ⟨Nat.lt_of_lt_of_le (hS7.1 i (.inl hi)) hF79.n, .inl (.inl hi)⟩
      refine wp_app1R hq9 rfl (by omega) (by omega) fun σa ba offa sa ca hFa hba hRa hma => ?_
      have hSa := hS9.step (Y' := fun i => pm ≠ none ∧ i = M) hFa (fun i _ h => h) fun i hi => ⟨Nat.lt_of_lt_of_le (hS9.1 i hi) hFa.n, .inl hi⟩
      rw [wp_call]
      have hla : (ml ++ [1]).length = ml.length + 1 := by simp
      rw [← hla]
      refine wp_back19 (fun σ' hF => (SlV.rdB (cap := ca) (.inr ⟨offa, sa, rfl, hRa⟩)).frm hF (fun _ h => h) |>.rd) (by omega) ca fun σb bb pb cb hFb hRb' hbb => ?_
      have hSb := hSa.step (Y' := fun i => pm ≠ none ∧ i = M) hFb (fun i _ h => h.elim) fun i hi => ⟨Nat.lt_of_lt_of_le (hSa.1 i hi) hFb.n, .inl hi⟩
      have hmb := hma.frm hFb fun _ h => h
      rw [asSlice_slice, wp_call, WpF.eq (ev_renew_no hSb (by rw [hfv]; omega)), asInt_int, wp_ret]
      simp only [T4k13, sw_same, asCons_cons, asBool_bool, asNil_nil]
      rw [wp_bif, if_neg (by simp)]
      rw [← hfv] at hmb ⊢
      refine wp_pops hSb hmb ?_ (by omega)
      · have := hq.cap
        rw [hfv]
        simpa using this
end
end Go.Pg
