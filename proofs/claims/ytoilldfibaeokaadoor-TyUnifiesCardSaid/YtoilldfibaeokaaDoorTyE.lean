/- Layer 5: Size, Good. -/
import Derived.Test.YtoilldfibaeokaaDoorTyD
namespace Go.Pg
open Go.Proofs

mutual
def measM : AT → Int → Int
  | .mk _ l, n => minV (measL l (n + 1)) 501
def measL : List AT → Int → Int
  | [], n => n
  | a :: l, n => if n > 500 then n else measL l (measM a n)
end
def argsM (k : Int) : Int := if k = 5 then 2 else if k = 6 then 1 else 0
mutual
def aloneM : AT → Bool
  | .mk d l => (decide (1 ≤ d.1.kind) && decide (d.1.kind ≤ 7) && decide ((l.length : Int) = argsM d.1.kind) && ((!(d.1.name.toList == (bs []).toList)) == (d.1.kind == 4))) && (decide (0 ≤ d.1.var) && decide (d.1.var ≤ 1999) && !(d.1.var != 0 && d.1.kind != 7)) && aloneL l
def aloneL : List AT → Bool
  | [] => true
  | a :: l => aloneM a && aloneL l
end
def goodM (t : AT) : Bool := decide (measM t 0 ≤ 500) && aloneM t
theorem measM_eq (t : AT) (n : Int) : measM t n = minV (measL t.args (n + 1)) 501 := by
  cases t
  rw [measM, Tr.args]
theorem aloneM_eq (t : AT) : aloneM t = ((decide (1 ≤ t.k) && decide (t.k ≤ 7) && decide ((t.args.length : Int) = argsM t.k) && ((!(t.nm.toList == (bs []).toList)) == (t.k == 4))) && (decide (0 ≤ t.v) && decide (t.v ≤ 1999) && !(t.v != 0 && t.k != 7)) && aloneL t.args) := by
  cases t
  rw [aloneM]
  rfl
theorem measL_big {n : Int} (h : n > 500) : ∀ l : List AT, measL l n = n
  | [] => by rw [measL]
  | _ :: _ => by rw [measL, if_pos h]
mutual
theorem measM_le : ∀ (t : AT) (n : Int), 0 ≤ n → 0 ≤ measM t n ∧ measM t n ≤ 501
  | .mk _ l, n, h => by
    rw [measM]
    have := measL_le l (n + 1) (by omega)
    rw [minV_eq]
    omega
theorem measL_le : ∀ (l : List AT) (n : Int), 0 ≤ n → 0 ≤ measL l n
  | [], n, h => by rw [measL]; exact h
  | a :: l, n, h => by
    rw [measL]
    split
    · exact h
    · exact measL_le l _ (measM_le a n h).1
end

section
variable {ov : Ov}
theorem wp_measure (hO : OvT ov) : ∀ (k : Nat) (σ : AHeap) (t : AT) (n : Int), SizeOf.sizeOf t ≤ k → AFull σ t → 0 ≤ n ∧ n ≤ 501 →
    WpF PROG ov 41 [.agg t.c.toArray, .int .i64 n] σ fun v σ' => v = .int .i64 (measM t n) ∧ Frm σ σ' NoB := by
  intro k
  induction k with
  | zero => intro σ t n h; cases t; simp at h
  | succ k ih =>
    intro σ t n hk ht hn
    have hlen := ht.len
    have hsz : ∀ u ∈ t.args, SizeOf.sizeOf u ≤ k := by
      cases t with
      | mk d l =>
        intro u hu
        have := List.sizeOf_lt_of_mem (show u ∈ l from hu)
        simp at hk
        omega
    obtain ⟨p, cap, hc, hrow⟩ := ht.row
    rw [hc]
    refine WpF.of (T41_eq _ _ _ _ _ _ _) (hO _ (by decide) (by decide) (by decide)) ?_
    rw [T41]
    refine wp_newQ fun σ1 hF1 hn1 hS1 => ?_
    rw [wp_ldF hS1 rfl, asSlice_slice, wi64_in (by omega)]
    have fin : ∀ (j : Nat) (σ' : AHeap), Frm σ σ' NoB → Wp PROG ov (T41k1 (.exit 0) [.int .i64 (j : Int), .int .i64 (measL t.args (n + 1))]) σ' fun _ vs σ' => ∃ v, vs = [v] ∧ v = .int .i64 (measM t n) ∧ Frm σ σ' NoB := fun j σ' hF' => by
      simp only [T41k1, sw_same, asCons_cons, asInt_int, asNil_nil]
      rw [wp_ret]
      exact ⟨_, rfl, by rw [measM_eq], hF'⟩
    refine Wp.count t.args.length (fun j st σ' => ∃ a : Int, st = [.int .i64 ((j : Nat) : Int), .int .i64 a] ∧ Frm σ σ' NoB ∧ 0 ≤ a ∧ a ≤ 502 ∧ measL (t.args.drop j) a = measL t.args (n + 1)) ⟨n + 1, rfl, hF1, by omega, by omega, rfl⟩ ?_ ?_
    · rintro j st σ4 hj ⟨a, rfl, hF4, ha0, ha1, hfo⟩
      have ej : wi64 ((j : Int) + 1) = ((j + 1 : Nat) : Int) := by rw [wi64_in (by omega)]; omega
      simp only [T41b0, asCons_cons, asInt_int, asNil_nil]
      rw [wp_bif, if_pos (by simp; omega), wp_join]
      have hr4 := hrow.stepM hF4 Maps.none (R' := fun cs (u : AT) => cs = u.c ∧ AFull σ4 u) fun _ _ h => ⟨h.1, h.2.frm hF4⟩
      refine wp_rowOf hr4 hj rfl fun cs hX => ?_
      have hmem := hsz _ (List.getElem_mem hj)
      rw [List.drop_eq_getElem_cons hj, measL] at hfo
      generalize t.args[j] = x at hX hfo hmem
      obtain ⟨rfl, hx⟩ := hX
      have hxi := fun σ' (hF' : Frm σ4 σ' NoB) (h5 : a ≤ 500) => ih σ' x a hmem (hx.frm hF') ⟨ha0, by omega⟩
      obtain ⟨xp, xc, hxc⟩ := hx.cells
      rw [hxc] at hxi ⊢
      simp only [asAgg_agg, asCons_cons, asInt_int, asStr_str, asSlice_slice, asNil_nil]
      refine wp_newQ fun σ5 hF5 hn5 hS5 => ?_
      refine wp_stQ hS5 rfl rfl fun σ6 hF6 hn6 hS6 => ?_
      have hF46 : Frm σ4 σ6 NoB := hF5.fresh hF6 fun j hj h => by omega
      rw [wp_bif]
      by_cases h5 : a > 500
      · rw [if_pos (decide_eq_true h5), wp_ret]
        simp only [T41k0, sw_same, asCons_cons, asInt_int, asNil_nil]
        rw [wp_ret]
        rw [if_pos h5] at hfo
        rw [hfo]
        exact fin j σ6 (hF4.seq hF46)
      · rw [if_neg h5] at hfo
        rw [if_neg (by rw [decide_eq_false h5]; simp), wp_ldAll hS6 4 rfl]
        simp only [asAgg_agg, asCons_cons, asInt_int, asStr_str, asSlice_slice, asNil_nil]
        have hmr := measM_le x a ha0
        rw [wp_call]
        refine WpF.mono (hxi σ6 hF46 (by omega)) ?_
        rintro _ σ7 ⟨rfl, hF7⟩
        rw [asInt_int, wp_ret]
        simp only [T41k0, sw_ne, sw_same, asCons_cons, asInt_int, asNil_nil]
        rw [wp_ret, ej]
        exact ⟨_, rfl, (hF4.seq hF46).seq hF7, hmr.1, by omega, hfo⟩
    · rintro st σ4 ⟨a, rfl, hF4, ha0, ha1, hfo⟩
      rw [List.drop_length, measL] at hfo
      simp only [T41b0, asCons_cons, asInt_int, asNil_nil]
      rw [wp_bif, if_neg (by simp), wp_ret, hfo]
      exact fin _ σ4 hF4

theorem wp_Size (hO : OvT ov) {σ : AHeap} {t : AT} (ht : AFull σ t) : WpF PROG ov 19 [.agg t.c.toArray] σ fun v σ' => v = .int .i64 (measM t 0) ∧ Frm σ σ' NoB := by
  have hz := fun σ' (hF : Frm σ σ' NoB) => wp_measure hO _ σ' t 0 (Nat.le_refl _) (ht.frm hF) ⟨by decide, by decide⟩
  obtain ⟨p, cap, hc⟩ := ht.cells
  rw [hc] at hz ⊢
  refine WpF.of (T19_eq _ _ _ _ _ _) (hO _ (by decide) (by decide) (by decide)) ?_
  rw [T19]
  refine wp_newQ fun σ1 hF1 hn1 hS1 => ?_
  rw [wp_ldAll hS1 4 rfl]
  simp only [asAgg_agg, asCons_cons, asInt_int, asStr_str, asSlice_slice, asNil_nil]
  rw [wp_call]
  refine WpF.mono (hz σ1 hF1) ?_
  rintro _ σ2 ⟨rfl, hF2⟩
  rw [asInt_int, wp_ret]
  exact ⟨_, rfl, rfl, hF1.seq hF2⟩

theorem wp_targs (hO : OvT ov) (σ : AHeap) (k : Int) : WpF PROG ov 54 [.int .i64 k] σ fun v σ' => v = .int .i64 (argsM k) ∧ σ = σ' := by
  refine WpF.of (T54_eq _) (hO _ (by decide) (by decide) (by decide)) ?_
  rw [T54, wp_join, wp_bif]
  unfold argsM
  by_cases h5 : k = 5
  · rw [if_pos (by simpa using h5), if_pos h5, wp_ret]
    simp only [T54k0, sw_same, asCons_cons, asInt_int, asNil_nil]
    rw [wp_ret]
    exact ⟨_, rfl, rfl, rfl⟩
  rw [if_neg (by simpa using h5), if_neg h5, wp_bif]
  by_cases h6 : k = 6
  · rw [if_pos (by simpa using h6), if_pos h6, wp_ret]
    simp only [T54k0, sw_same, asCons_cons, asInt_int, asNil_nil]
    rw [wp_ret]
    exact ⟨_, rfl, rfl, rfl⟩
  rw [if_neg (by simpa using h6), if_neg h6, wp_ret]
  simp only [T54k0, sw_nr, sw_same, asCons_cons, asInt_int, asNil_nil]
  rw [wp_ret]
  exact ⟨_, rfl, rfl, rfl⟩

theorem wp_alone (hO : OvT ov) : ∀ (k : Nat) (σ : AHeap) (t : AT), SizeOf.sizeOf t ≤ k → AFull σ t →
    WpF PROG ov 38 [.agg t.c.toArray] σ fun v σ' => v = .bool (aloneM t) ∧ Frm σ σ' NoB := by
  intro k
  induction k with
  | zero => intro σ t h; cases t; simp at h
  | succ k ih =>
    intro σ t hk ht
    have hlen := ht.len
    have hsz : ∀ u ∈ t.args, SizeOf.sizeOf u ≤ k := by
      cases t with
      | mk d l =>
        intro u hu
        have := List.sizeOf_lt_of_mem (show u ∈ l from hu)
        simp at hk
        omega
    obtain ⟨p, cap, hc, hrow⟩ := ht.row
    rw [hc, aloneM_eq]
    refine WpF.of (T38_eq _ _ _ _ _ _) (hO _ (by decide) (by decide) (by decide)) ?_
    rw [T38]
    refine wp_newQ fun σ1 hF1 hn1 hS1 => ?_
    rw [wp_join, wp_ldF hS1 rfl, asInt_int, wp_bif]
    have bad : ∀ σ' : AHeap, Frm σ σ' NoB → ∀ w : Bool, w = false → Wp PROG ov (T38k3 ⟨σ.n, 0, some 0⟩ .normal [.bool true]) σ' fun _ vs σ' => ∃ v, vs = [v] ∧ v = .bool w ∧ Frm σ σ' NoB := fun σ' hF w hw => by
      simp only [T38k3, sw_same, asCons_cons, asBool_bool, asNil_nil]
      rw [wp_bif, if_pos rfl, wp_ret]
      exact ⟨_, rfl, by rw [hw], hF⟩
    by_cases h1 : t.k < 1
    · rw [if_neg (by simpa using h1), wp_ret]
      exact bad σ1 hF1 _ (by have : ¬ 1 ≤ t.k := by omega
                             simp [this])
    have h1' : 1 ≤ t.k := by omega
    rw [if_pos (by simpa using h1'), wp_ldF hS1 rfl, asInt_int, wp_bif]
    by_cases h7 : t.k > 7
    · rw [if_neg (by simpa using h7), wp_ret]
      exact bad σ1 hF1 _ (by have : ¬ t.k ≤ 7 := by omega
                             simp [this])
    have h7' : t.k ≤ 7 := by omega
    rw [if_pos (by simpa using h7'), wp_ldF hS1 rfl, asSlice_slice, wp_ldF hS1 rfl, asInt_int, wp_call]
    refine WpF.mono (wp_targs hO σ1 t.k) ?_
    rintro _ _ ⟨rfl, rfl⟩
    rw [asInt_int, wp_get, wp_grd]
    refine ⟨?_, ?_⟩
    · simp only [chks, chkAt]
      rw [hS1.ldF rfl]
      simp only [eqv_same]
      rfl
    rw [wp_bif]
    by_cases ha : (t.args.length : Int) = argsM t.k
    case neg =>
      rw [if_neg (by simpa using ha), wp_ret]
      exact bad σ1 hF1 _ (by simp [ha])
    rw [if_pos (by simpa using ha), wp_ldF hS1 rfl, asStr_str, wp_ldF hS1 rfl, asInt_int, wp_ret]
    by_cases hnm : ((!(t.nm.toList == (bs []).toList)) == (t.k == 4)) = true
    case neg =>
      have hnm' : ((!(t.nm.toList == (bs []).toList)) == (t.k == 4)) = false := Bool.not_eq_true _ ▸ hnm
      rw [hnm']
      exact bad σ1 hF1 _ (by simp)
    rw [hnm]
    simp only [T38k3, sw_same, asCons_cons, asBool_bool, asNil_nil]
    rw [wp_bif, if_neg (by simp), wp_join, wp_ldF hS1 rfl, asInt_int, wp_bif]
    have bad2 : ∀ w : Bool, w = false → Wp PROG ov (T38k2 ⟨σ.n, 0, some 0⟩ .normal [.bool true]) σ1 fun _ vs σ' => ∃ v, vs = [v] ∧ v = .bool w ∧ Frm σ σ' NoB := fun w hw => by
      simp only [T38k2, sw_same, asCons_cons, asBool_bool, asNil_nil]
      rw [wp_bif, if_pos rfl, wp_ret]
      exact ⟨_, rfl, by rw [hw], hF1⟩
    have good2 : decide (0 ≤ t.v) && decide (t.v ≤ 1999) && !(t.v != 0 && t.k != 7) → Wp PROG ov (T38k2 ⟨σ.n, 0, some 0⟩ .normal [.bool false]) σ1 fun _ vs σ' => ∃ v, vs = [v] ∧ v = .bool ((decide (1 ≤ t.k) && decide (t.k ≤ 7) && decide ((t.args.length : Int) = argsM t.k) && true) && (decide (0 ≤ t.v) && decide (t.v ≤ 1999) && !(t.v != 0 && t.k != 7)) && aloneL t.args) ∧ Frm σ σ' NoB := fun hv => by
      rw [hv]
      simp only [h1', h7', ha, decide_true, Bool.and_self, Bool.true_and]
      simp only [T38k2, sw_same, asCons_cons, asBool_bool, asNil_nil]
      rw [wp_bif, if_neg (by simp), wp_ldF hS1 rfl, asSlice_slice]
      refine Wp.count t.args.length (fun j st σ' => ∃ c : Bool, st = [.int .i64 ((j : Nat) : Int), .bool c] ∧ Frm σ σ' NoB ∧ aloneL (t.args.drop j) = aloneL t.args) ⟨false, rfl, hF1, rfl⟩ ?_ ?_
      · rintro j st σ4 hj ⟨c, rfl, hF4, hfo⟩
        have ej : wi64 ((j : Int) + 1) = ((j + 1 : Nat) : Int) := by rw [wi64_in (by omega)]; omega
        simp only [T38b0, asCons_cons, asInt_int, asBool_bool, asNil_nil]
        rw [wp_bif, if_pos (by simp; omega), wp_join]
        have hr4 := hrow.stepM hF4 Maps.none (R' := fun cs (u : AT) => cs = u.c ∧ AFull σ4 u) fun _ _ h => ⟨h.1, h.2.frm hF4⟩
        refine wp_rowOf hr4 hj rfl fun cs hX => ?_
        have hmem := hsz _ (List.getElem_mem hj)
        rw [List.drop_eq_getElem_cons hj, aloneL] at hfo
        generalize t.args[j] = x at hX hfo hmem
        obtain ⟨rfl, hx⟩ := hX
        have hxi := fun σ' (hF' : Frm σ4 σ' NoB) => ih σ' x hmem (hx.frm hF')
        obtain ⟨xp, xc, hxc⟩ := hx.cells
        rw [hxc] at hxi ⊢
        simp only [asAgg_agg, asCons_cons, asInt_int, asStr_str, asSlice_slice, asNil_nil]
        refine wp_newQ fun σ5 hF5 hn5 hS5 => ?_
        refine wp_stQ hS5 rfl rfl fun σ6 hF6 hn6 hS6 => ?_
        have hF46 : Frm σ4 σ6 NoB := hF5.fresh hF6 fun j hj h => by omega
        rw [wp_ldAll hS6 4 rfl]
        simp only [asAgg_agg, asCons_cons, asInt_int, asStr_str, asSlice_slice, asNil_nil]
        rw [wp_call]
        refine WpF.mono (hxi σ6 hF46) ?_
        rintro _ σ7 ⟨rfl, hF7⟩
        rw [asBool_bool, wp_bif]
        cases hax : aloneM x with
        | false =>
          rw [hax, Bool.false_and] at hfo
          rw [if_pos (by simp), wp_ret]
          simp only [T38k0, sw_same, asCons_cons, asBool_bool, asNil_nil]
          rw [wp_ret]
          simp only [T38k1, sw_re, sw_same, asCons_cons, asInt_int, asBool_bool, asNil_nil]
          rw [wp_ret]
          exact ⟨_, rfl, by rw [← hfo], (hF4.seq hF46).seq hF7⟩
        | true =>
          rw [hax, Bool.true_and] at hfo
          rw [if_neg (by simp), wp_ret]
          simp only [T38k0, sw_nr, sw_same, asCons_cons, asBool_bool, asNil_nil]
          rw [wp_ret, ej]
          exact ⟨c, rfl, (hF4.seq hF46).seq hF7, hfo⟩
      · rintro st σ4 ⟨c, rfl, hF4, hfo⟩
        rw [List.drop_length, aloneL] at hfo
        simp only [T38b0, asCons_cons, asInt_int, asBool_bool, asNil_nil]
        rw [wp_bif, if_neg (by simp), wp_ret]
        simp only [T38k1, sw_same, asCons_cons, asInt_int, asBool_bool, asNil_nil]
        rw [wp_ret]
        exact ⟨_, rfl, by rw [← hfo], hF4⟩
    by_cases hv0 : t.v < 0
    · rw [if_neg (by simpa using hv0), wp_ret]
      exact bad2 _ (by have : ¬ 0 ≤ t.v := by omega
                       simp [this])
    have hv0' : 0 ≤ t.v := by omega
    rw [if_pos (by simpa using hv0'), wp_ldF hS1 rfl, asInt_int, wp_bif]
    by_cases hv1 : t.v > 1999
    · rw [if_neg (by simpa using hv1), wp_ret]
      exact bad2 _ (by have : ¬ t.v ≤ 1999 := by omega
                       simp [this])
    have hv1' : t.v ≤ 1999 := by omega
    rw [if_pos (by simpa using hv1'), wp_ldF hS1 rfl, asInt_int, wp_bif]
    by_cases hvz : t.v = 0
    · rw [if_neg (by simpa using hvz), wp_ret]
      exact good2 (by
        have h0 : (t.v != 0) = false := by simpa using hvz
        rw [h0]
        simp [hv0', hv1'])
    rw [if_pos (by simpa using hvz), wp_ldF hS1 rfl, asInt_int, wp_ret]
    by_cases hk7 : t.k = 7
    · have e7 : (t.k != 7) = false := by simpa using hk7
      have hg := good2 (by
        rw [e7]
        simp [hv0', hv1'])
      rw [e7] at hg ⊢
      exact hg
    · rw [show (t.k != 7) = true by simpa using hk7]
      exact bad2 _ (by simp [hvz])

theorem wp_Good (hO : OvT ov) {σ : AHeap} {t : AT} (ht : AFull σ t) : WpF PROG ov 15 [.agg t.c.toArray] σ fun v σ' => v = .bool (goodM t) ∧ Frm σ σ' NoB := by
  have hz := fun σ' (hF : Frm σ σ' NoB) => wp_Size hO (ht.frm hF)
  have hw := fun σ' (hF : Frm σ σ' NoB) => wp_alone hO _ σ' t (Nat.le_refl _) (ht.frm hF)
  obtain ⟨p, cap, hc⟩ := ht.cells
  rw [hc] at hz hw ⊢
  refine WpF.of (T15_eq _ _ _ _ _ _) (hO _ (by decide) (by decide) (by decide)) ?_
  rw [T15]
  refine wp_newQ fun σ1 hF1 hn1 hS1 => ?_
  rw [wp_join, wp_ldAll hS1 4 rfl]
  simp only [asAgg_agg, asCons_cons, asInt_int, asStr_str, asSlice_slice, asNil_nil]
  rw [wp_call]
  refine WpF.mono (hz σ1 hF1) ?_
  rintro _ σ2 ⟨rfl, hF2⟩
  have hF02 := hF1.seq hF2
  rw [asInt_int, wp_bif]
  by_cases h : measM t 0 ≤ 500
  · rw [if_pos (by simpa using h), wp_ldAll (hF2.stN hS1) 4 rfl]
    simp only [asAgg_agg, asCons_cons, asInt_int, asStr_str, asSlice_slice, asNil_nil]
    rw [wp_call]
    refine WpF.mono (hw σ2 hF02) ?_
    rintro _ σ3 ⟨rfl, hF3⟩
    rw [asBool_bool, wp_ret]
    simp only [T15k0, sw_same, asCons_cons, asBool_bool, asNil_nil]
    rw [wp_ret]
    exact ⟨_, rfl, by simp [goodM, h], hF02.seq hF3⟩
  · rw [if_neg (by simpa using h), wp_ret]
    simp only [T15k0, sw_same, asCons_cons, asBool_bool, asNil_nil]
    rw [wp_ret]
    exact ⟨_, rfl, by simp [goodM, h], hF02⟩
end
end Go.Pg
