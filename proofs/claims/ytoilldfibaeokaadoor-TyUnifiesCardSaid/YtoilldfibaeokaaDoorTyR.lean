/- Layer 5: the document's Size, Good, Vars; two rows of numbers alike. -/
import Derived.Test.YtoilldfibaeokaaDoorTyV
namespace Go.Pg
open Go.Proofs

mutual
def cntM : AT → Int
  | .mk _ l => cntL l + 1
def cntL : List AT → Int
  | [] => 0
  | a :: l => cntM a + cntL l
end
mutual
theorem cntM_pos : ∀ t : AT, 1 ≤ cntM t
  | .mk _ l => by
    rw [cntM]
    have := cntL_pos l
    omega
theorem cntL_pos : ∀ l : List AT, 0 ≤ cntL l
  | [] => by rw [cntL]; exact Int.le_refl _
  | a :: l => by
    rw [cntL]
    have := cntM_pos a
    have := cntL_pos l
    omega
end
mutual
theorem measM_cnt : ∀ (t : AT) (n : Int), 0 ≤ n → n ≤ 501 → measM t n = min (n + cntM t) 501
  | .mk _ l, n, h0, h1 => by
    rw [measM, cntM, minV_eq]
    have := measL_cnt l (n + 1) (by omega) (by omega)
    rw [this]
    congr 1
    omega
theorem measL_cnt : ∀ (l : List AT) (n : Int), 0 ≤ n → n ≤ 502 → min (measL l n) 501 = min (n + cntL l) 501
  | [], n, h0, h1 => by rw [measL, cntL, Int.add_zero]
  | a :: l, n, h0, h1 => by
    rw [measL, cntL]
    have := cntL_pos l
    have := cntM_pos a
    split
    · omega
    · rw [measM_cnt a n h0 (by omega), measL_cnt l _ (by omega) (by omega)]
      omega
end

section
variable {ov : Ov}
theorem wp_SizeR (hO : OvT ov) : ∀ (k : Nat) (σ : AHeap) (t : AT), SizeOf.sizeOf t ≤ k → AFull σ t → RetO ov 23 [.agg t.c.toArray] σ (.int .i64 (measM t 0)) := by
  intro k
  induction k with
  | zero => intro σ t h; cases t; simp at h
  | succ k ih =>
    intro σ t hk ht
    have hlen := ht.len
    have hsz : ∀ u ∈ t.args, SizeOf.sizeOf u ≤ k := by
      cases t with
      | mk d l =>
        intro u hu
        have := List.sizeOf_lt_of_mem (show u ∈ l from hu)
        simp at hk
        omega
    obtain ⟨p, cap, hc, hrow⟩ := ht.row
    have hcnt : measM t 0 = min (1 + cntL t.args) 501 := by
      rw [measM_cnt t 0 (by omega) (by omega)]
      cases t
      rw [cntM]
      simp only [Tr.args]
      congr 1
      omega
    rw [hc, hcnt]
    refine WpF.of (T23_eq _ _ _ _ _ _) (hO _ (by decide) (by decide) (by decide)) ?_
    rw [T23]
    refine wp_newQ fun σ1 hF1 hn1 hS1 => ?_
    have fin : ∀ (i n : Int) (σ' : AHeap), Frm σ σ' NoB → min n 501 = min (1 + cntL t.args) 501 → Wp PROG ov (T23k1 (.exit 0) [.int .i64 i, .int .i64 n]) σ' fun _ vs σ' => ∃ v, vs = [v] ∧ v = .int .i64 (min (1 + cntL t.args) 501) ∧ Frm σ σ' NoB := fun i n σ' hF hm => by
      simp only [T23k1, sw_same, asCons_cons, asInt_int, asNil_nil]
      rw [wp_bif]
      by_cases h : n > 501
      · rw [if_pos (by simpa using h), wp_ret]
        exact ⟨_, rfl, by rw [← hm]; congr 1; omega, hF⟩
      · rw [if_neg (by simpa using h), wp_ret]
        exact ⟨_, rfl, by rw [← hm]; congr 1; omega, hF⟩
    refine Wp.count t.args.length (fun j st σ' => ∃ a : Int, st = [.int .i64 ((j : Nat) : Int), .int .i64 a] ∧ Frm σ1 σ' NoB ∧ 0 ≤ a ∧ a ≤ 1001 ∧ min (a + cntL (t.args.drop j)) 501 = min (1 + cntL t.args) 501) ⟨1, rfl, Frm.refl _ _, by omega, by omega, rfl⟩ ?_ ?_
    · rintro j st σ4 hj ⟨a, rfl, hF4, ha0, ha1, hfo⟩
      have ej : wi64 ((j : Int) + 1) = ((j + 1 : Nat) : Int) := by rw [wi64_in (by omega)]; omega
      have hA := hF4.stN hS1
      have hF04 := hF1.seq hF4
      simp only [T23b0, asCons_cons, asInt_int, asNil_nil]
      rw [wp_ldF hA rfl, asSlice_slice, wp_bif]
      by_cases h5 : a ≤ 500
      · rw [if_pos (by simp; omega), wp_join, wp_ldF hA rfl, asSlice_slice]
        have hr4 := hrow.stepM hF04 Maps.none (R' := fun cs (u : AT) => cs = u.c ∧ AFull σ4 u) fun _ _ h => ⟨h.1, h.2.frm hF04⟩
        refine wp_rowOf hr4 hj rfl fun cs hX => ?_
        have hmem := hsz _ (List.getElem_mem hj)
        rw [List.drop_eq_getElem_cons hj, cntL] at hfo
        generalize t.args[j] = x at hX hfo hmem
        obtain ⟨rfl, hx⟩ := hX
        have hxi := ih σ4 x hmem hx
        obtain ⟨xp, xc, hxc⟩ := hx.cells
        rw [hxc] at hxi ⊢
        simp only [asAgg_agg, asCons_cons, asInt_int, asStr_str, asSlice_slice, asNil_nil]
        rw [wp_call]
        refine WpF.mono hxi ?_
        rintro _ σ5 ⟨rfl, hF5⟩
        have hm := measM_cnt x 0 (by omega) (by omega)
        have := cntM_pos x
        have := cntL_pos (t.args.drop (j + 1))
        rw [asInt_int, wp_ret]
        simp only [T23k0, sw_same, asCons_cons, asInt_int, asNil_nil]
        rw [wp_ret, ej, wi64_in (by omega)]
        exact ⟨_, rfl, hF4.seq hF5, by omega, by omega, by omega⟩
      · rw [if_neg (by simp; omega), wp_ret]
        have := cntL_pos (t.args.drop j)
        exact fin _ _ _ hF04 (by omega)
    · rintro st σ4 ⟨a, rfl, hF4, ha0, ha1, hfo⟩
      rw [List.drop_length, cntL, Int.add_zero] at hfo
      simp only [T23b0, asCons_cons, asInt_int, asNil_nil]
      rw [wp_ldF (hF4.stN hS1) rfl, asSlice_slice, wp_bif, if_neg (by simp), wp_ret]
      exact fin _ _ _ (hF1.seq hF4) hfo

theorem wp_kinds (hO : OvT ov) : ∀ (k : Nat) (σ : AHeap) (t : AT), SizeOf.sizeOf t ≤ k → AFull σ t → RetO ov 44 [.agg t.c.toArray] σ (.bool (aloneM t)) := by
  intro k
  induction k with
  | zero => intro σ t h; cases t; simp at h
  | succ k ih =>
    intro σ t hk ht
    have hlen := ht.len
    have hsz : ∀ u ∈ t.args, SizeOf.sizeOf u ≤ k := by
      cases t with
      | mk d l =>
        intro u hu
        have := List.sizeOf_lt_of_mem (show u ∈ l from hu)
        simp at hk
        omega
    obtain ⟨p, cap, hc, hrow⟩ := ht.row
    rw [hc, aloneM_eq]
    refine WpF.of (T44_eq _ _ _ _ _ _) (hO _ (by decide) (by decide) (by decide)) ?_
    rw [T44]
    refine wp_newQ fun σ1 hF1 hn1 hS1 => ?_
    rw [wp_ldF hS1 rfl, asInt_int, wp_join]
    have badR : ∀ w : Bool, w = false → Wp PROG ov (T44k8 false ⟨σ.n, 0, some 0⟩ .normal [.bool true]) σ1 fun _ vs σ' => ∃ v, vs = [v] ∧ v = .bool w ∧ Frm σ σ' NoB := fun w hw => by
      simp only [T44k8, sw_same, asCons_cons, asBool_bool, asNil_nil]
      rw [wp_bif, if_pos rfl, wp_ret]
      exact ⟨_, rfl, by rw [hw], hF1⟩
    have goodR : ∀ w : Bool, w = aloneL t.args → Wp PROG ov (T44k8 false ⟨σ.n, 0, some 0⟩ .normal [.bool false]) σ1 fun _ vs σ' => ∃ v, vs = [v] ∧ v = .bool w ∧ Frm σ σ' NoB := fun w hw => by
      subst hw
      simp only [T44k8, sw_same, asCons_cons, asBool_bool, asNil_nil]
      rw [wp_bif, if_neg (by simp)]
      refine Wp.count t.args.length (fun j st σ' => ∃ c : Bool, st = [.int .i64 ((j : Nat) : Int), .bool c] ∧ Frm σ1 σ' NoB ∧ aloneL (t.args.drop j) = aloneL t.args) ⟨false, rfl, Frm.refl _ _, rfl⟩ ?_ ?_
      · rintro j st σ4 hj ⟨c, rfl, hF4, hfo⟩
        have ej : wi64 ((j : Int) + 1) = ((j + 1 : Nat) : Int) := by rw [wi64_in (by omega)]; omega
        have hA := hF4.stN hS1
        have hF04 := hF1.seq hF4
        simp only [T44b0, asCons_cons, asInt_int, asBool_bool, asNil_nil]
        rw [wp_ldF hA rfl, asSlice_slice, wp_bif, if_pos (by simp; omega), wp_join, wp_ldF hA rfl, asSlice_slice]
        have hr4 := hrow.stepM hF04 Maps.none (R' := fun cs (u : AT) => cs = u.c ∧ AFull σ4 u) fun _ _ h => ⟨h.1, h.2.frm hF04⟩
        refine wp_rowOf hr4 hj rfl fun cs hX => ?_
        have hmem := hsz _ (List.getElem_mem hj)
        rw [List.drop_eq_getElem_cons hj, aloneL] at hfo
        generalize t.args[j] = x at hX hfo hmem
        obtain ⟨rfl, hx⟩ := hX
        have hxi := ih σ4 x hmem hx
        obtain ⟨xp, xc, hxc⟩ := hx.cells
        rw [hxc] at hxi ⊢
        simp only [asAgg_agg, asCons_cons, asInt_int, asStr_str, asSlice_slice, asNil_nil]
        rw [wp_call]
        refine WpF.mono hxi ?_
        rintro _ σ7 ⟨rfl, hF7⟩
        rw [asBool_bool, wp_bif]
        cases hax : aloneM x with
        | false =>
          rw [hax, Bool.false_and] at hfo
          rw [if_pos (by simp), wp_ret]
          simp only [T44k6, sw_same, asCons_cons, asBool_bool, asNil_nil]
          rw [wp_ret]
          simp only [T44k7, sw_re, sw_same, asCons_cons, asInt_int, asBool_bool, asNil_nil]
          rw [wp_ret]
          exact ⟨_, rfl, by rw [← hfo], hF04.seq hF7⟩
        | true =>
          rw [hax, Bool.true_and] at hfo
          rw [if_neg (by simp), wp_ret]
          simp only [T44k6, sw_nr, sw_same, asCons_cons, asBool_bool, asNil_nil]
          rw [wp_ret, ej]
          exact ⟨c, rfl, hF4.seq hF7, hfo⟩
      · rintro st σ4 ⟨c, rfl, hF4, hfo⟩
        rw [List.drop_length, aloneL] at hfo
        simp only [T44b0, asCons_cons, asInt_int, asBool_bool, asNil_nil]
        rw [wp_ldF (hF4.stN hS1) rfl, asSlice_slice, wp_bif, if_neg (by simp), wp_ret]
        simp only [T44k7, sw_same, asCons_cons, asInt_int, asBool_bool, asNil_nil]
        rw [wp_ret]
        exact ⟨_, rfl, by rw [← hfo], hF1.seq hF4⟩
    have main : 1 ≤ t.k → t.k ≤ 7 → Wp PROG ov (T44k9 ⟨σ.n, 0, some 0⟩ .normal [.bool false, .int .i64 (argsM t.k)]) σ1 fun _ vs σ' => ∃ v, vs = [v] ∧ v = .bool ((decide (1 ≤ t.k) && decide (t.k ≤ 7) && decide ((t.args.length : Int) = argsM t.k) && ((!(t.nm.toList == (bs []).toList)) == (t.k == 4))) && (decide (0 ≤ t.v) && decide (t.v ≤ 1999) && !(t.v != 0 && t.k != 7)) && aloneL t.args) ∧ Frm σ σ' NoB := fun h1 h7 => by
      simp only [T44k9, sw_same, asCons_cons, asBool_bool, asInt_int, asNil_nil]
      rw [wp_join, wp_ldF hS1 rfl, asSlice_slice, wp_bif]
      by_cases ha : (t.args.length : Int) = argsM t.k
      case neg =>
        rw [if_neg (by simpa using ha), wp_ret]
        exact badR _ (by simp [ha])
      rw [if_pos (by simpa using ha), wp_ldF hS1 rfl, asStr_str, wp_ldF hS1 rfl, asInt_int, wp_bif]
      by_cases hnm : ((!(t.nm.toList == (bs []).toList)) == (t.k == 4)) = true
      case neg =>
        have hnm' : ((!(t.nm.toList == (bs []).toList)) == (t.k == 4)) = false := Bool.not_eq_true _ ▸ hnm
        rw [hnm', if_neg (by decide), wp_ret]
        exact badR _ (by simp)
      rw [hnm, if_pos (by decide), wp_ldF hS1 rfl, asInt_int, wp_bif]
      have last : ∀ x : Bool, (x = !(t.v != 0 && t.k != 7)) → x = true → Wp PROG ov (.act (ld1 (aadd ⟨σ.n, 0, some 0⟩ 2)) fun v79 => asInt .i64 v79 fun i80 => bif (decide (i80 < 0)) == false then (.act (ld1 (aadd ⟨σ.n, 0, some 0⟩ 2)) fun v81 => asInt .i64 v81 fun i82 => .ret .normal [(.bool (decide (i82 > 1999)))]) else (.ret .normal [(.bool true)])) σ1 fun e vs σ' => Wp PROG ov (T44k8 false ⟨σ.n, 0, some 0⟩ e vs) σ' fun _ vs σ' => ∃ v, vs = [v] ∧ v = .bool ((decide (1 ≤ t.k) && decide (t.k ≤ 7) && decide ((t.args.length : Int) = argsM t.k) && true) && (decide (0 ≤ t.v) && decide (t.v ≤ 1999) && x) && aloneL t.args) ∧ Frm σ σ' NoB := fun x _ hx => by
        rw [wp_ldF hS1 rfl, asInt_int, wp_bif]
        by_cases hv0 : t.v < 0
        · rw [if_neg (by simpa using hv0), wp_ret]
          exact badR _ (by have : ¬ 0 ≤ t.v := by omega
                           simp [this])
        have hv0' : 0 ≤ t.v := by omega
        rw [if_pos (by simpa using hv0'), wp_ldF hS1 rfl, asInt_int, wp_ret]
        by_cases hv1 : t.v > 1999
        · rw [decide_eq_true hv1]
          exact badR _ (by have : ¬ t.v ≤ 1999 := by omega
                           simp [this])
        have hv1' : t.v ≤ 1999 := by omega
        rw [decide_eq_false hv1]
        exact goodR _ (by simp [h1, h7, ha, hv0', hv1', hx])
      by_cases h77 : t.k = 7
      · rw [if_neg (by simp [h77])]
        exact last _ rfl (by simp [h77])
      · rw [if_pos (by simpa using h77), wp_ldF hS1 rfl, asInt_int, wp_bif]
        by_cases hvz : t.v = 0
        · rw [if_pos (by simpa using hvz)]
          exact last _ rfl (by simp [hvz])
        · rw [if_neg (by simpa using hvz), wp_ret]
          exact badR _ (by simp [hvz, h77])
    by_cases hk : t.k = 1 ∨ t.k = 2 ∨ t.k = 3 ∨ t.k = 4 ∨ t.k = 7
    · have hsh : Wp PROG ov (T44k5 t.k .normal [.bool true]) σ1 fun e vs σ' => Wp PROG ov (T44k9 ⟨σ.n, 0, some 0⟩ e vs) σ' fun _ vs σ' => ∃ v, vs = [v] ∧ v = .bool ((decide (1 ≤ t.k) && decide (t.k ≤ 7) && decide ((t.args.length : Int) = argsM t.k) && ((!(t.nm.toList == (bs []).toList)) == (t.k == 4))) && (decide (0 ≤ t.v) && decide (t.v ≤ 1999) && !(t.v != 0 && t.k != 7)) && aloneL t.args) ∧ Frm σ σ' NoB := by
        simp only [T44k5, sw_same, asCons_cons, asBool_bool, asNil_nil]
        rw [wp_join, wp_bif, if_pos rfl, wp_ret]
        simp only [T44k4, sw_same, asCons_cons, asBool_bool, asInt_int, asNil_nil]
        rw [wp_ret]
        have e0 : argsM t.k = 0 := by unfold argsM; rw [if_neg (by omega), if_neg (by omega)]
        have := main (by omega) (by omega)
        rw [e0] at this ⊢
        exact this
      rw [wp_join, wp_bif]
      by_cases k1 : t.k = 1
      · rw [if_pos (by simpa using k1), wp_ret, show (t.k == 1) = true by simpa using k1]
        exact hsh
      rw [if_neg (by simpa using k1), wp_join, wp_bif]
      by_cases k2 : t.k = 2
      · rw [if_pos (by simpa using k2), wp_ret, show (t.k == 2) = true by simpa using k2]
        simp only [T44k2, sw_same, asCons_cons, asBool_bool, asNil_nil]
        rw [wp_ret]
        exact hsh
      rw [if_neg (by simpa using k2), wp_join, wp_bif]
      by_cases k3 : t.k = 3
      · rw [if_pos (by simpa using k3), wp_ret, show (t.k == 3) = true by simpa using k3]
        simp only [T44k1, sw_same, asCons_cons, asBool_bool, asNil_nil]
        rw [wp_ret]
        simp only [T44k2, sw_same, asCons_cons, asBool_bool, asNil_nil]
        rw [wp_ret]
        exact hsh
      rw [if_neg (by simpa using k3), wp_join, wp_bif]
      by_cases k4 : t.k = 4
      · rw [if_pos (by simpa using k4), wp_ret, show (t.k == 4) = true by simpa using k4]
        simp only [T44k0, sw_same, asCons_cons, asBool_bool, asNil_nil]
        rw [wp_ret]
        simp only [T44k1, sw_same, asCons_cons, asBool_bool, asNil_nil]
        rw [wp_ret]
        simp only [T44k2, sw_same, asCons_cons, asBool_bool, asNil_nil]
        rw [wp_ret]
        rw [k4] at hsh ⊢
        exact hsh
      rw [if_neg (by simpa using k4), wp_ret, show (t.k == 7) = true by simp; omega]
      simp only [T44k0, sw_same, asCons_cons, asBool_bool, asNil_nil]
      rw [wp_ret]
      simp only [T44k1, sw_same, asCons_cons, asBool_bool, asNil_nil]
      rw [wp_ret]
      simp only [T44k2, sw_same, asCons_cons, asBool_bool, asNil_nil]
      rw [wp_ret]
      exact hsh
    · obtain ⟨q1, q2, q3, q4, q7⟩ : t.k ≠ 1 ∧ t.k ≠ 2 ∧ t.k ≠ 3 ∧ t.k ≠ 4 ∧ t.k ≠ 7 := ⟨by omega, by omega, by omega, by omega, by omega⟩
      rw [wp_join, wp_bif, if_neg (by simpa using q1), wp_join, wp_bif, if_neg (by simpa using q2), wp_join, wp_bif, if_neg (by simpa using q3), wp_join, wp_bif, if_neg (by simpa using q4), wp_ret, show (t.k == 7) = false by simpa using q7]
      simp only [T44k0, sw_same, asCons_cons, asBool_bool, asNil_nil]
      rw [wp_ret]
      simp only [T44k1, sw_same, asCons_cons, asBool_bool, asNil_nil]
      rw [wp_ret]
      simp only [T44k2, sw_same, asCons_cons, asBool_bool, asNil_nil]
      rw [wp_ret]
      simp only [T44k5, sw_same, asCons_cons, asBool_bool, asNil_nil]
      rw [wp_join, wp_bif, if_neg (by simp), wp_join, wp_bif]
      by_cases k5 : t.k = 5
      · rw [if_pos (by simpa using k5), wp_ret]
        simp only [T44k3, sw_same, asCons_cons, asBool_bool, asInt_int, asNil_nil]
        rw [wp_ret]
        simp only [T44k4, sw_same, asCons_cons, asBool_bool, asInt_int, asNil_nil]
        rw [wp_ret]
        have := main (by omega) (by omega)
        rw [show argsM t.k = 2 by rw [k5]; rfl] at this ⊢
        exact this
      rw [if_neg (by simpa using k5), wp_bif]
      by_cases k6 : t.k = 6
      · rw [if_pos (by simpa using k6), wp_ret]
        simp only [T44k3, sw_same, asCons_cons, asBool_bool, asInt_int, asNil_nil]
        rw [wp_ret]
        simp only [T44k4, sw_same, asCons_cons, asBool_bool, asInt_int, asNil_nil]
        rw [wp_ret]
        have := main (by omega) (by omega)
        rw [show argsM t.k = 1 by rw [k6]; rfl] at this ⊢
        exact this
      rw [if_neg (by simpa using k6), wp_ret]
      simp only [T44k3, sw_rn, sw_same, asCons_cons, asBool_bool, asInt_int, asNil_nil]
      rw [wp_ret]
      simp only [T44k4, sw_rn, sw_same, asCons_cons, asBool_bool, asInt_int, asNil_nil]
      rw [wp_ret]
      simp only [T44k9, sw_rn, sw_same, asCons_cons, asBool_bool, asInt_int, asNil_nil]
      rw [wp_ret]
      refine ⟨_, rfl, ?_, hF1⟩
      have : (decide (1 ≤ t.k) && decide (t.k ≤ 7)) = false := by
        rw [Bool.and_eq_false_iff, decide_eq_false_iff_not, decide_eq_false_iff_not]
        omega
      rw [this]
      rfl

theorem wp_GoodR (hO : OvT ov) {σ : AHeap} {t : AT} (ht : AFull σ t) : RetO ov 21 [.agg t.c.toArray] σ (.bool (goodM t)) := by
  have hz := fun σ' (hF : Frm σ σ' NoB) => wp_SizeR hO _ σ' t (Nat.le_refl _) (ht.frm hF)
  have hw := fun σ' (hF : Frm σ σ' NoB) => wp_kinds hO _ σ' t (Nat.le_refl _) (ht.frm hF)
  obtain ⟨p, cap, hc⟩ := ht.cells
  rw [hc] at hz hw ⊢
  refine WpF.of (T21_eq _ _ _ _ _ _) (hO _ (by decide) (by decide) (by decide)) ?_
  rw [T21]
  refine wp_newQ fun σ1 hF1 hn1 hS1 => ?_
  rw [wp_join, wp_ldAll hS1 4 rfl]
  simp only [asAgg_agg, asCons_cons, asInt_int, asStr_str, asSlice_slice, asNil_nil]
  rw [wp_call]
  refine WpF.mono (hz σ1 hF1) ?_
  rintro _ σ2 ⟨rfl, hF2⟩
  have hF02 := hF1.seq hF2
  rw [asInt_int, wp_bif]
  by_cases h : measM t 0 ≤ 500
  · rw [if_pos (by simpa using h), wp_ldAll (hF2.stN hS1) 4 rfl]
    simp only [asAgg_agg, asCons_cons, asInt_int, asStr_str, asSlice_slice, asNil_nil]
    rw [wp_call]
    refine WpF.mono (hw σ2 hF02) ?_
    rintro _ σ3 ⟨rfl, hF3⟩
    rw [asBool_bool, wp_ret]
    simp only [T21k0, sw_same, asCons_cons, asBool_bool, asNil_nil]
    rw [wp_ret]
    exact ⟨_, rfl, by simp [goodM, h], hF02.seq hF3⟩
  · rw [if_neg (by simpa using h), wp_ret]
    simp only [T21k0, sw_same, asCons_cons, asBool_bool, asNil_nil]
    rw [wp_ret]
    exact ⟨_, rfl, by simp [goodM, h], hF02⟩
end
end Go.Pg
