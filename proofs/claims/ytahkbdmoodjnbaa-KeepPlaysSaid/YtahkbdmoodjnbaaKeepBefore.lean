/- Layer 22: the newest that is not behind a count is kept, none between it and the count is: the law's tree returns true for all integers. -/
import Derived.Test.YtahkbdmoodjnbaaKeepEven
namespace Go.Pg
open Go.Proofs

theorem best_spec {every most : Int} {i : Nat} {l : List Int} (h : Kpt every most i l) {n : Int} (hn : 0 ≤ n) : ∀ j, 1 ≤ j → j ≤ l.length →
    best l n j ≤ n ∧ (∃ q, q < j ∧ l.getD q 0 = best l n j) ∧ ∀ q, q < j → l.getD q 0 ≤ n → l.getD q 0 ≤ best l n j
  | 0, h1, _ => by omega
  | j + 1, _, h2 => by
    have hb : best l n (j + 1) = if l.getD j 0 ≤ n then l.getD j 0 else best l n j := rfl
    rw [hb]
    split
    · rename_i hc
      refine ⟨hc, ⟨j, by omega, rfl⟩, fun q hq _ => ?_⟩
      by_cases hqj : q = j
      · subst hqj; exact Int.le_refl _
      · exact Int.le_of_lt (up_get h.up (by omega) (by omega))
    · rename_i hc
      have hj : j ≠ 0 := by
        rintro rfl
        have := h.first
        omega
      obtain ⟨h3, ⟨q, hq, h4⟩, h5⟩ := best_spec h hn j (by omega) (by omega)
      refine ⟨h3, ⟨q, by omega, h4⟩, fun q hq hle => ?_⟩
      by_cases hqj : q = j
      · subst hqj; exact absurd hle hc
      · exact h5 q (by omega) hle

theorem best_neg {l : List Int} (h : ∀ x ∈ l, 0 ≤ x) : ∀ j, j ≤ l.length → best l (-1) j = 0
  | 0, _ => rfl
  | j + 1, hj => by
    have := h _ (getD_mem (l := l) (i := j) (by omega))
    unfold best
    rw [if_neg (by omega)]
    exact best_neg h j (by omega)

/-- Is it there? -/
def thr (l : List Int) (n : Int) : Nat → Bool
  | 0 => false
  | j + 1 => bif thr l n j then true else l.getD j 0 == n
theorem thr_true {l : List Int} {n : Int} : ∀ {j q : Nat}, q < j → l.getD q 0 = n → thr l n j = true
  | j + 1, q, hq, h => by
    unfold thr
    by_cases hqj : q = j
    · subst hqj
      rw [h]
      cases thr l n q <;> simp
    · rw [thr_true (by omega) h]
      rfl

theorem keepBefore_true (a0 : Int) (_ : (Lit.int .i64 a0).wf = true) (a1 : Int) (_ : (Lit.int .i64 a1).wf = true) (a2 : Int) (_ : (Lit.int .i64 a2).wf = true) (a3 : Int) (_ : (Lit.int .i64 a3).wf = true) (σ : AHeap) :
    WpF PROG ov0 8 [.int .i64 a0, .int .i64 a1, .int .i64 a2, .int .i64 a3] σ fun v _ => v = .bool true := by
  refine WpF.of (T8_eq _ _ _ _) rfl ?_
  rw [T8, wp_call]
  refine wp_awake22 σ fun σ0 hF0 => ?_
  simp only [asBool_bool]
  rw [wp_bif, if_neg (by simp), wp_bif]
  split
  · rw [wp_ret]; exact ⟨_, rfl, rfl⟩
  rename_i hb
  simp only [Bool.or_eq_true, decide_eq_true_eq, not_or] at hb
  obtain ⟨⟨⟨⟨⟨⟨h1, h2⟩, h3⟩, h4⟩, h5⟩, h6⟩, h7⟩ := hb
  rw [wp_call]
  refine wp_new σ0 (by unfold mayNew; rw [decide_eq_true_eq]; omega) fun σ1 hF1 hK1 => ?_
  simp only [asTuple_tuple, asCons_cons, asPtr_ptr, asInt_int, asNil_nil]
  rw [wp_bif, if_neg (by simp)]
  refine Wp.count a2.toNat (fun j st σ' => st = [.int .i64 ((j : Int) + 1)] ∧ ∃ l, KS σ' (σ0.n + 1) σ0.n a0 a1 l ∧ Kpt a0 a1 j l) ⟨rfl, [0], hK1, kpt_zero (by omega)⟩ ?_ ?_
  · rintro j st σ2 hj ⟨rfl, l, hK, hP⟩
    have hbd := mul_bound (j := j + 1) (e := a0) (by omega) (by omega) (by omega)
    have ec : (j : Int) + 1 = ((j + 1 : Nat) : Int) := by omega
    have ew : wi64 (((j : Int) + 1) * a0) = ((j + 1 : Nat) : Int) * a0 := by rw [ec, wi64_in (by omega)]
    have ej : wi64 ((j : Int) + 1 + 1) = (j : Int) + 1 + 1 := wi64_in (by omega)
    simp only [T8b0, asCons_cons, asInt_int, asNil_nil, ew]
    rw [wp_bif, if_pos (by simp; omega), wp_join, wp_call]
    refine wp_add_kpt hK hP (by omega) (by omega) fun p k1 k2 e σ3 l' hF3 hK3 hP3 => ?_
    simp only [asTuple_tuple, asCons_cons, asSlice_slice, asInt_int, asNil_nil, wp_ret, T8k0, sw_same, ej]
    exact ⟨by simp, l', hK3, hP3⟩
  · rintro st σ2 ⟨rfl, l, hK, hP⟩
    have hll := hP.len
    have hne := hP.ne
    have hbf := ev_before hK (by omega) a3
    obtain ⟨q1, ⟨q, hq, q2⟩, q3⟩ := best_spec hP (n := a3) (by omega) l.length (by omega) (Nat.le_refl _)
    generalize best l a3 l.length = B at *
    simp only [T8b0, asCons_cons, asInt_int, asNil_nil]
    rw [wp_bif, if_neg (by simp; omega)]
    simp only [wp_ret, T8k6, sw_same, asCons_cons, asInt_int, asNil_nil]
    rw [wp_call, WpF.eq hbf, asInt_int, wp_call]
    refine wp_kept hK hne (by omega) fun σ4 s4 cap4 hF4 hR4 => ?_
    have hK4 := hK.frm hF4 (fun h => h) (fun h => h)
    have hRd := hR4.rdI
    simp only [asSlice_slice]
    refine Wp.count l.length (fun j st σ' => σ' = σ4 ∧ st = [.int .i64 ((j : Nat) : Int), .bool false, .bool (thr l B j)]) ⟨rfl, rfl⟩ ?_ ?_
    · rintro j st σ' hj ⟨rfl, rfl⟩
      have ej : wi64 ((j : Int) + 1) = (j : Int) + 1 := wi64_in (by omega)
      have hno := q3 j hj
      have tail : Wp PROG ov0 (T8k2 (some ⟨σ2.n, 0, some s4⟩) (j : Int) l.length B a3 false .normal [.bool (thr l B (j + 1))]) σ' fun e vs σ'_1 => Wp PROG ov0 (T8k3 (j : Int) e vs) σ'_1 fun e st' σ'_2 => match e with
          | .normal => σ'_2 = σ' ∧ st' = [.int .i64 (((j + 1 : Nat) : Nat) : Int), .bool false, .bool (thr l B (j + 1))]
          | e => Wp PROG ov0 (T8k5 B a3 (some ⟨σ0.n + 1, 0, some 0⟩) e st') σ'_2 fun _ vs σ' => ∃ v, vs = [v] ∧ v = .bool true := by
        simp only [T8k2, sw_same, asCons_cons, asBool_bool, asNil_nil]
        rw [wp_join, wp_rdI hRd (by omega) (by omega)]
        simp only [Int.toNat_natCast]
        rw [wp_bif]
        by_cases hc : l.getD j 0 > B
        · have hn : ¬ l.getD j 0 ≤ a3 := fun h => by have := hno h; omega
          rw [if_pos (by rw [decide_eq_true hc]; rfl), wp_rdN hRd (Int.toNat_natCast j) (by omega) (by omega), decide_eq_false hn]
          simp [wp_ret, T8k1, T8k3, sw_same, sw_nr, asCons_cons, asBool_bool, asNil_nil, ej]
        · rw [if_neg (by rw [decide_eq_false hc]; simp)]
          simp [wp_ret, T8k1, T8k3, sw_same, sw_nr, asCons_cons, asBool_bool, asNil_nil, ej]
      simp only [T8b1, asCons_cons, asInt_int, asBool_bool, asNil_nil]
      rw [wp_bif, if_pos (by simp; omega), wp_join, wp_join, wp_bif]
      have ht : thr l B (j + 1) = bif thr l B j then true else l.getD j 0 == B := rfl
      cases hth : thr l B j with
      | true =>
        rw [hth] at ht
        rw [if_neg (by simp), wp_ret]
        rw [ht] at tail
        exact ht ▸ tail
      | false =>
        rw [hth] at ht
        rw [if_pos (by simp), wp_rdI hRd (by omega) (by omega), wp_ret]
        simp only [Int.toNat_natCast]
        rw [ht] at tail
        exact ht ▸ tail
    · rintro st σ' ⟨rfl, rfl⟩
      have hneg := ev_before hK4 (by omega) (-1)
      rw [best_neg hP.pos _ (Nat.le_refl _)] at hneg
      simp only [T8b1, asCons_cons, asInt_int, asBool_bool, asNil_nil]
      rw [wp_bif, if_neg (by simp), wp_ret]
      simp only [T8k5, sw_same, asCons_cons, asInt_int, asBool_bool, asNil_nil]
      rw [thr_true hq q2, wp_join, wp_bif, if_pos (by rw [decide_eq_true q1]; rfl), wp_call, WpF.eq hneg, asInt_int]
      simp [wp_ret, T8k4, sw_same, asCons_cons, asBool_bool, asNil_nil]

end Go.Pg
