/- Layer 22: of successive counts never more than most are kept, 0 and the latest always are: the law's tree returns true for all integers. -/
import Derived.Test.YtahkbdmoodjnbaaKeep3
namespace Go.Pg
open Go.Proofs

theorem wp_rd0 {σ : AHeap} {k : IntKind} {p : Option Addr} {l : List Int} (h : RdI σ k p l) (h1 : 0 < l.length) (f : Int → Pg) (Q : Post) :
    Wp PROG ov0 (asSome p fun a => grd (decide (0 < ((l.length : Nat) : Int))) (.act (ld1 (aadd a 0)) fun v => asInt k v f)) σ Q = Wp PROG ov0 (f (l.getD 0 0)) σ Q := by
  obtain ⟨a, rfl, hl⟩ := h 0 h1
  have hd : decide (0 < ((l.length : Nat) : Int)) = true := by simp; omega
  simp only [asSome_some, wp_grd, hd, wp_act, show 0 * 1 = 0 from rfl] at hl ⊢
  simp only [hl, asInt_int, true_and]

theorem wp_rdN {σ : AHeap} {k : IntKind} {p : Option Addr} {l : List Int} (h : RdI σ k p l) {i : Int} {n : Nat} (hn : i.toNat = n) (h0 : 0 ≤ i) (h1 : i < (l.length : Nat)) (f : Int → Pg) (Q : Post) :
    Wp PROG ov0 (asSome p fun a => grd (decide (0 ≤ i) && decide (i < ((l.length : Nat) : Int))) (.act (ld1 (aadd a (n * 1))) fun v => asInt k v f)) σ Q = Wp PROG ov0 (f (l.getD n 0)) σ Q := by
  subst hn
  exact wp_rdI h h0 h1 f Q

theorem mul_bound {j : Nat} {e : Int} (hj : j ≤ 300) (h1 : 1 ≤ e) (h2 : e ≤ 1000) : 0 ≤ (j : Int) * e ∧ (j : Int) * e ≤ 300000 := by
  refine ⟨Int.mul_nonneg (by omega) (by omega), ?_⟩
  calc (j : Int) * e ≤ 300 * e := Int.mul_le_mul_of_nonneg_right (by omega) (by omega)
    _ ≤ 300000 := by omega

/-- Add of the next count. -/
theorem wp_add_kpt {σ : AHeap} {b c : Nat} {every most : Int} {l : List Int} {i : Nat} (h : KS σ b c every most l) (hP : Kpt every most i l) (he : 1 ≤ every) (hm : 2 ≤ most ∧ most ≤ 64) {Q : Value → AHeap → Prop}
    (hQ : ∀ p k1 k2 e σ' l', Frm σ σ' (fun j => j = b ∨ j = c) → KS σ' b c every most l' → Kpt every most (i + 1) l' → Q (.tuple #[.slice p k1 k2, .int .i64 e]) σ') : WpF PROG ov0 26 [KP b, .int .i64 (((i + 1 : Nat) : Int) * every)] σ Q := by
  obtain ⟨hw, hn⟩ := kpt_next he hP
  have hll := hP.len
  refine wp_add h hP.ne (by omega) (by omega) hm.1 _ hw fun v σ' hA => ?_
  obtain ⟨hF, hA⟩ := hA
  by_cases hle : ((l ++ [((i + 1 : Nat) : Int) * every]).length : Int) ≤ most
  · rw [if_pos hle] at hA hn
    obtain ⟨rfl, hK⟩ := hA
    exact hQ _ _ _ _ _ _ hF hK hn
  · rw [if_neg hle] at hA hn
    obtain ⟨g, hg, rfl, hR, hK⟩ := hA
    have hp := pick_le (l ++ [((i + 1 : Nat) : Int) * every]) ((l ++ [((i + 1 : Nat) : Int) * every]).length - 2)
    refine hQ _ _ _ _ _ _ hF hK (hn _ hp.1 ?_)
    simp only [List.length_append, List.length_singleton] at hp hle ⊢
    omega

theorem kpt_two {every most : Int} {i : Nat} {l : List Int} (he : 1 ≤ every) (hi : 1 ≤ i) (h : Kpt every most i l) : 2 ≤ l.length := by
  have h1 := h.ne
  have h2 := h.first
  have h3 := h.last
  have h4 : 0 < (i : Int) * every := Int.mul_pos (by omega) (by omega)
  by_cases hl : l.length = 1
  · unfold lastI at h3
    rw [hl] at h3
    simp only [Nat.sub_self] at h3
    omega
  · omega

theorem best_last (l : List Int) (n : Int) (h : 1 ≤ l.length) (hn : lastI l ≤ n) : best l n l.length = lastI l := by
  unfold lastI at hn ⊢
  obtain ⟨k, hk⟩ : ∃ k, l.length = k + 1 := ⟨l.length - 1, by omega⟩
  rw [hk] at hn ⊢
  simp only [Nat.add_sub_cancel] at hn ⊢
  unfold best
  rw [if_pos hn]

theorem getD_mem {l : List Int} {i : Nat} (h : i < l.length) : l.getD i 0 ∈ l := by
  have : l.getD i 0 = l[i] := by simp [List.getD, h]
  rw [this]
  exact List.getElem_mem h
theorem up_get {l : List Int} (h : l.Pairwise (· < ·)) {i j : Nat} (hij : i < j) (hj : j < l.length) : l.getD i 0 < l.getD j 0 := by
  have e1 : l.getD i 0 = l[i]'(by omega) := by simp [List.getD, show i < l.length by omega]
  have e2 : l.getD j 0 = l[j] := by simp [List.getD, hj]
  rw [e1, e2]
  exact List.pairwise_iff_getElem.1 h i j (by omega) hj hij

theorem keepEven_true (a0 : Int) (_ : (Lit.int .i64 a0).wf = true) (a1 : Int) (_ : (Lit.int .i64 a1).wf = true) (a2 : Int) (_ : (Lit.int .i64 a2).wf = true) (σ : AHeap) :
    WpF PROG ov0 7 [.int .i64 a0, .int .i64 a1, .int .i64 a2] σ fun v _ => v = .bool true := by
  refine WpF.of (T7_eq _ _ _) rfl ?_
  rw [T7, wp_call]
  refine wp_awake22 σ fun σ0 hF0 => ?_
  simp only [asBool_bool]
  rw [wp_bif, if_neg (by simp), wp_bif]
  split
  · rw [wp_ret]; exact ⟨_, rfl, rfl⟩
  rename_i hb
  simp only [Bool.or_eq_true, decide_eq_true_eq, not_or] at hb
  obtain ⟨⟨⟨⟨⟨h1, h2⟩, h3⟩, h4⟩, h5⟩, h6⟩ := hb
  rw [wp_call]
  refine wp_new σ0 (by unfold mayNew; rw [decide_eq_true_eq]; omega) fun σ1 hF1 hK1 => ?_
  simp only [asTuple_tuple, asCons_cons, asPtr_ptr, asInt_int, asNil_nil]
  rw [wp_bif, if_neg (by simp)]
  refine Wp.count a2.toNat (fun j st σ' => st = [.int .i64 ((j : Int) + 1), .bool false] ∧ ∃ l, KS σ' (σ0.n + 1) σ0.n a0 a1 l ∧ Kpt a0 a1 j l) ⟨rfl, [0], hK1, kpt_zero (by omega)⟩ ?_ ?_
  · rintro j st σ2 hj ⟨rfl, l, hK, hP⟩
    have hbd := mul_bound (j := j + 1) (e := a0) (by omega) (by omega) (by omega)
    have ec : (j : Int) + 1 = ((j + 1 : Nat) : Int) := by omega
    have ew : wi64 (((j : Int) + 1) * a0) = ((j + 1 : Nat) : Int) * a0 := by rw [ec, wi64_in (by omega)]
    have hll := hP.len
    have hwn := ev_wants hK hP.ne (by omega) (by omega) (((j + 1 : Nat) : Int) * a0)
    rw [(kpt_next (by omega) hP).1] at hwn
    simp only [T7b1, asCons_cons, asInt_int, asBool_bool, asNil_nil, ew]
    rw [wp_bif, if_pos (by simp; omega), wp_join, wp_call, WpF.eq hwn, asBool_bool, wp_bif, if_neg (by simp), wp_call]
    refine wp_add_kpt hK hP (by omega) (by omega) fun p k1 k2 e σ3 l' hF3 hK3 hP3 => ?_
    simp only [asTuple_tuple, asCons_cons, asSlice_slice, asInt_int, asNil_nil]
    have hl3 := hP3.len
    have h23 := kpt_two (by omega) (by omega) hP3
    rw [wp_call]
    refine wp_kept hK3 (by omega) (by omega) fun σ4 s4 cap4 hF4 hR4 => ?_
    have hK4 := hK3.frm hF4 (fun h => h) (fun h => h)
    have hRd := hR4.rdI
    have hbf := ev_before hK4 (by omega) (((j + 1 : Nat) : Int) * a0)
    rw [best_last l' _ (by omega) (by rw [hP3.last]; exact Int.le_refl _), hP3.last] at hbf
    have el : wi64 ((l'.length : Int) - 1) = ((l'.length - 1 : Nat) : Int) := by rw [wi64_in (by omega)]; omega
    have hlast : l'.getD (l'.length - 1) 0 = ((j + 1 : Nat) : Int) * a0 := hP3.last
    simp only [asSlice_slice, el]
    rw [wp_join, wp_bif, if_pos (by simp; omega), wp_bif, if_pos (by simp; omega), wp_rd0 hRd (by omega), hP3.first, wp_bif, if_pos (by simp), wp_rdI hRd (by omega) (by omega)]
    simp only [Int.toNat_natCast]
    rw [hlast, wp_bif, if_pos (by simp), wp_call, WpF.eq hbf, asInt_int, wp_bif, if_pos (by simp), wp_bif]
    have tail : Wp PROG ov0 (T7k3 false l'.length (some ⟨σ3.n, 0, some s4⟩) a0 .normal [.bool false]) σ4 fun e vs σ' => Wp PROG ov0 (T7k4 ((j : Int) + 1) e vs) σ' fun e st' σ' => match e with
        | .normal => st' = [.int .i64 (((j + 1 : Nat) : Int) + 1), .bool false] ∧ ∃ l, KS σ' (σ0.n + 1) σ0.n a0 a1 l ∧ Kpt a0 a1 (j + 1) l
        | e => Wp PROG ov0 (T7k5 e st') σ' fun _ vs σ' => ∃ v, vs = [v] ∧ v = .bool true := by
      simp only [T7k3, sw_same, asCons_cons, asBool_bool, asNil_nil]
      rw [wp_bif, if_neg (by simp)]
      refine Wp.count (l'.length - 1) (fun q st σ' => σ' = σ4 ∧ st = [.int .i64 ((q : Int) + 1), .bool false]) ⟨rfl, rfl⟩ ?_ ?_
      · rintro q st σ' hq ⟨rfl, rfl⟩
        have eq1 : Int.toNat ((q : Int) + 1) = q + 1 := by omega
        have eq0 : wi64 ((q : Int) + 1 - 1) = ((q : Nat) : Int) := by rw [wi64_in (by omega)]; omega
        have eq2 : wi64 ((q : Int) + 1 + 1) = (q : Int) + 1 + 1 := wi64_in (by omega)
        have hup := up_get hP3.up (i := q) (j := q + 1) (by omega) (by omega)
        have hmu := hP3.mult _ (getD_mem (l := l') (i := q + 1) (by omega))
        simp only [T7b0, asCons_cons, asInt_int, asBool_bool, asNil_nil, eq0]
        rw [wp_bif, if_pos (by simp; omega), wp_join, wp_join, wp_rdI hRd (by omega) (by omega), wp_rdI hRd (by omega) (by omega)]
        simp only [Int.toNat_natCast, eq1]
        rw [wp_bif, if_pos (by rw [decide_eq_false (by omega : ¬ (l'.getD (q + 1) 0 ≤ l'.getD q 0))]; rfl), wp_rdN hRd eq1 (by omega) (by omega), wp_grd]
        refine ⟨by simp; omega, ?_⟩
        rw [hmu]
        simp [wp_ret, T7k0, T7k1, sw_same, sw_nr, asCons_cons, asBool_bool, asNil_nil, eq2]
      · rintro st σ' ⟨rfl, rfl⟩
        simp only [T7b0, asCons_cons, asInt_int, asBool_bool, asNil_nil]
        rw [wp_bif, if_neg (by simp; omega)]
        have ej : wi64 ((j : Int) + 1 + 1) = (j : Int) + 1 + 1 := wi64_in (by omega)
        simp only [wp_ret, T7k2, T7k4, sw_same, sw_nr, asCons_cons, asInt_int, asBool_bool, asNil_nil, ej]
        exact ⟨by simp, l', hK4, hP3⟩
    split
    · rename_i hlt
      have hall := hP3.all (by simp at hlt; omega)
      have ej : wi64 ((j : Int) + 1 + 1) = ((j + 2 : Nat) : Int) := by rw [wi64_in (by omega)]; omega
      have : (((l'.length : Nat) : Int) != wi64 ((j : Int) + 1 + 1)) = false := by rw [ej]; simp; omega
      rw [this, wp_ret]
      exact tail
    · rw [wp_ret]
      exact tail
  · rintro st σ' ⟨rfl, l, hK, hP⟩
    simp only [T7b1, asCons_cons, asInt_int, asBool_bool, asNil_nil]
    rw [wp_bif, if_neg (by simp; omega)]
    simp [wp_ret, T7k5, sw_same, asCons_cons, asInt_int, asBool_bool, asNil_nil]

end Go.Pg
