/- Layer 17: frames come off in the other order, with what they were put on with: the law's tree returns true for all rows. -/
import Derived.Test.YteelimkplbfiiaaFAwake
namespace Go.Pg
open Go.Proofs

/-- The frame that is put on at i. -/
def nst (l w : List Int) (i : Nat) : Fv := ⟨i, l.getD i 0, (List.replicate (l.getD i 0 % 8).toNat 1).set ((l.getD i 0 % 8).toNat - 1) (wu64 (w.getD i 0 + 1)), [w.getD i 0]⟩
def nsts (l w : List Int) (j : Nat) : List Fv := (List.range j).map (nst l w)
theorem nsts_succ (l w : List Int) (j : Nat) : nsts l w (j + 1) = nsts l w j ++ [nst l w j] := by simp [nsts, List.range_succ]
theorem nst_sz (l w : List Int) (i : Nat) : fsz (nst l w i) ≤ 10 := by
  unfold fsz nst
  simp
  omega
theorem nsts_tot (l w : List Int) (j : Nat) : tot (nsts l w j) ≤ 10 * j := by
  induction j with
  | zero => simp [nsts, tot]
  | succ j ih =>
    rw [nsts_succ, tot_snoc]
    have := nst_sz l w j
    omega
theorem and7 (x : Int) : andI .i64 x 7 = x % 8 := andI_mask .i64 x 3 (by decide)

theorem wp_rdJ {P : Program} {ov : Ov} {σ : AHeap} {k : IntKind} {p : Option Addr} {l : List Int} (h : RdI σ k p l) {j : Nat} (h1 : j < l.length) (f : Int → Pg) (Q : Post) :
    Wp P ov (asSome p fun a => grd (decide (0 ≤ ((j : Nat) : Int)) && decide (((j : Nat) : Int) < ((l.length : Nat) : Int))) (.act (ld1 (aadd a (Int.toNat ((j : Nat) : Int) * 1))) fun v => asInt k v f)) σ Q = Wp P ov (f (l.getD j 0)) σ Q := by
  rw [wp_rdI h (by omega) (by omega), Int.toNat_natCast]

theorem frameNests_law (p0 : Option Addr) (n2 : Nat) (l : List Int) (p3 : Option Addr) (n5 : Nat) (w : List Int) (old : Addr → Option Value) (hl : ∀ σ : AHeap, σ.old = old → RdI σ .i64 p0 l) (hw : ∀ σ : AHeap, σ.old = old → RdI σ .u64 p3 w) :
    WpF PROG ov0 3 [.slice p0 l.length n2, .slice p3 w.length n5] (startH old) fun v _ => v = .bool true := by
  refine WpF.of (T3_eq _ _ _ _ _ _) rfl ?_
  rw [T3, wp_call]
  refine wp_awake17 _ fun σ0 hF0 => ?_
  have ho0 : σ0.old = old := hF0.old
  simp only [asBool_bool]
  rw [wp_bif, if_neg (by simp), wp_join, wp_bif]
  by_cases h20 : l.length > 20
  · rw [if_neg (by simp; omega), wp_ret]
    simp only [T3k9, sw_same, asCons_cons, asBool_bool, asNil_nil]
    rw [wp_bif, if_pos (by rfl), wp_ret]
    exact ⟨_, rfl, rfl⟩
  rw [if_pos (by simp; omega), wp_ret]
  simp only [T3k9, sw_same, asCons_cons, asBool_bool, asNil_nil]
  rw [wp_bif]
  by_cases hlw : w.length < l.length
  · rw [if_pos (by simp; omega), wp_ret]
    exact ⟨_, rfl, rfl⟩
  rw [if_neg (by simp; omega), wp_call]
  refine wp_newK (Y := NoB) 4096 (by omega) (fun i hi => hi.elim) fun σ1 hF1 h1 => ?_
  have ho1 := hF1.old.trans ho0
  generalize σ0.n = S at h1
  simp only [asTuple_tuple, asCons_cons, asPtr_ptr, asInt_int, asNil_nil]
  refine Wp.count l.length (fun j st σ' => st = [.int .i64 ((j : Nat) : Int), .bool false] ∧ σ'.old = old ∧ Stk σ' S 4096 NoB (nsts l w j)) ⟨rfl, ho1, h1⟩ ?_ ?_
  · rintro j st σ2 hj ⟨rfl, ho2, h2⟩
    have ej : wi64 ((j : Int) + 1) = (j : Int) + 1 := wi64_in (by omega)
    have ht := nsts_tot l w j
    simp only [T3b0, asCons_cons, asInt_int, asBool_bool, asNil_nil]
    rw [wp_bif, if_pos (by simp; omega), wp_join, wp_rdJ (hl σ2 ho2) (by omega), wp_join, wp_rdJ (hl σ2 ho2) (by omega), wp_call, and7]
    have hs := nsts_succ l w j
    have hm : l.getD j 0 % 8 = (((l.getD j 0 % 8).toNat : Nat) : Int) := by omega
    have hm8 : (l.getD j 0 % 8).toNat < 8 := by omega
    unfold nst at hs
    generalize l.getD j 0 = x at hs hm hm8
    obtain ⟨n, en⟩ : ∃ n : Nat, n = (x % 8).toNat := ⟨_, rfl⟩
    rw [← en] at hs hm hm8
    rw [hm]
    refine wp_pushK h2 _ x n (by omega) fun σ3 hF3 h3 => ?_
    have ho3 := hF3.old.trans ho2
    simp only [asInt_int]
    rw [wp_bif, if_pos (by rfl), wp_rdJ (hw σ3 ho3) (by omega), wp_call]
    refine wp_addK h3 (by rw [tot_snoc]; simp [fsz]; omega) _ fun σ4 hF4 h4 => ?_
    have ho4 := hF4.old.trans ho3
    simp only [asInt_int]
    rw [wp_ret]
    simp only [T3k1, sw_same, asCons_cons, asBool_bool, asNil_nil]
    rw [wp_bif, if_neg (by simp), wp_join, wp_bif, and7, hm]
    by_cases hn : n = 0
    · subst hn
      rw [if_neg (by simp), wp_ret]
      simp only [T3k0, sw_same, asCons_cons, asBool_bool, asNil_nil]
      rw [wp_bif, if_neg (by simp), wp_ret]
      simp only [T3k2, sw_nr, sw_same, asCons_cons, asBool_bool, asNil_nil]
      rw [wp_ret, ej]
      refine ⟨by simp, ho4, ?_⟩
      rw [hs]
      simpa using h4
    · rw [if_pos (by simp; omega), wp_rdJ (hw σ4 ho4) (by omega), wp_call]
      have en : wi64 (((n : Nat) : Int) - 1) = ((n - 1 : Nat) : Int) := by rw [wi64_in (by omega)]; omega
      rw [en]
      refine wp_setK h4 (n - 1) _ (by simp; omega) fun σ5 hF5 h5 => ?_
      have ho5 := hF5.old.trans ho4
      simp only [asInt_int]
      rw [wp_ret]
      simp only [T3k0, sw_same, asCons_cons, asBool_bool, asNil_nil]
      rw [wp_bif, if_neg (by simp), wp_ret]
      simp only [T3k2, sw_nr, sw_same, asCons_cons, asBool_bool, asNil_nil]
      rw [wp_ret, ej]
      refine ⟨by simp, ho5, ?_⟩
      rw [hs]
      exact h5
  · rintro st σ2 ⟨rfl, ho2, h2⟩
    simp only [T3b0, asCons_cons, asInt_int, asBool_bool, asNil_nil]
    rw [wp_bif, if_neg (by simp), wp_ret]
    simp only [T3k8, sw_same, asCons_cons, asInt_int, asBool_bool, asNil_nil]
    refine Wp.count l.length (fun j st σ' => st = [.int .i64 ((l.length : Int) - 1 - j), .bool false] ∧ σ'.old = old ∧ Stk σ' S 4096 NoB (nsts l w (l.length - j))) ⟨by rw [wi64_in (by omega)]; simp, ho2, h2⟩ ?_ ?_
    · rintro j st σ3 hj ⟨rfl, ho3, h3⟩
      obtain ⟨m, hm⟩ : ∃ m, l.length = m + 1 + j := ⟨l.length - 1 - j, by omega⟩
      have e1 : (l.length : Int) - 1 - j = (m : Int) := by omega
      have e2 : l.length - j = m + 1 := by omega
      have e3 : l.length - (j + 1) = m := by omega
      have e4 : wi64 ((m : Int) - 1) = (l.length : Int) - 1 - ((j + 1 : Nat) : Int) := by rw [wi64_in (by omega)]; omega
      rw [e2, nsts_succ] at h3
      rw [e1, e3]
      have hv : nst l w m = nst l w m := rfl
      conv at hv => rhs; unfold nst
      have hx : l.getD m 0 % 8 = (((l.getD m 0 % 8).toNat : Nat) : Int) := by omega
      have hx8 : (l.getD m 0 % 8).toNat < 8 := by omega
      simp only [T3b1, asCons_cons, asInt_int, asBool_bool, asNil_nil]
      rw [wp_bif, if_pos (by simp), wp_join, wp_rdJ (hl σ3 ho3) (by omega), wp_join, wp_bif, and7]
      generalize (l.getD m 0 % 8).toNat = n at hx hx8 hv
      have key : Wp PROG ov0 (T3k5 (some (PA S)) p3 (m : Int) w.length p0 l.length .normal [.bool false]) σ3 fun e vs σ' => Wp PROG ov0 (T3k6 (m : Int) e vs) σ' fun e st' σ' => match e with
          | .normal => st' = [.int .i64 ((l.length : Int) - 1 - ((j + 1 : Nat) : Int)), .bool false] ∧ σ'.old = old ∧ Stk σ' S 4096 NoB (nsts l w m)
          | e => Wp PROG ov0 (T3k7 (some (PA S)) e st') σ' fun _ vs σ' => ∃ v, vs = [v] ∧ v = .bool true := by
        simp only [T3k5, sw_nr, sw_same, asCons_cons, asBool_bool, asNil_nil]
        rw [wp_call]
        refine wp_takeK h3 (l := []) (w := w.getD m 0) rfl fun σ4 hF4 h4 => ?_
        have ho4 := hF4.old.trans ho3
        simp only [asTuple_tuple, asCons_cons, asInt_int, asNil_nil]
        rw [wp_call]
        refine wp_popK h4 fun σ5 hF5 h5 => ?_
        have ho5 := hF5.old.trans ho4
        simp only [asTuple_tuple, asCons_cons, asInt_int, asNil_nil]
        rw [wp_join, wp_bif, if_pos (by rfl), wp_rdJ (hw σ5 ho5) (by omega), wp_bif, if_pos (by simp [nst]), wp_rdJ (hl σ5 ho5) (by omega), wp_bif, if_pos (by simp [nst]), wp_call, WpF.eq (ev_depthK h5), asInt_int, wp_ret]
        simp only [T3k4, sw_same, asCons_cons, asBool_bool, asNil_nil]
        rw [wp_bif, if_neg (by simp [nsts]), wp_ret]
        simp only [T3k6, sw_nr, sw_same, asCons_cons, asBool_bool, asNil_nil]
        rw [wp_ret, e4]
        exact ⟨rfl, ho5, h5⟩
      rw [hx]
      by_cases hn : n = 0
      · subst hn
        rw [if_neg (by simp), wp_ret]
        exact key
      · have en : wi64 (((n : Nat) : Int) - 1) = ((n - 1 : Nat) : Int) := by rw [wi64_in (by omega)]; omega
        rw [if_pos (by simp; omega), en, wp_call, WpF.eq (ev_getK h3 (n - 1) (by rw [hv]; simp; omega))]
        simp only [asTuple_tuple, asCons_cons, asInt_int, asNil_nil]
        rw [wp_join, wp_bif, if_pos (by rfl), wp_rdJ (hw σ3 ho3) (by omega), wp_ret]
        simp only [T3k3, sw_same, asCons_cons, asBool_bool, asNil_nil]
        rw [wp_bif, if_neg (by rw [hv]; have e : ((List.replicate n (1 : Int)).set (n - 1) (wu64 (w.getD m 0 + 1)))[n - 1]? = some (wu64 (w.getD m 0 + 1)) := List.getElem?_set_self (by simp; omega); have e' : ((List.replicate n (1 : Int)).set (n - 1) (wu64 (w.getD m 0 + 1))).getD (n - 1) 0 = wu64 (w.getD m 0 + 1) := by unfold List.getD at e ⊢; rw [e]; rfl
                               simp only [e']; simp), wp_ret]
        exact key
    · rintro st σ3 ⟨rfl, ho3, h3⟩
      simp only [Nat.sub_self] at h3
      simp only [T3b1, asCons_cons, asInt_int, asBool_bool, asNil_nil]
      rw [wp_bif, if_neg (by simp; omega), wp_ret]
      simp only [T3k7, sw_same, asCons_cons, asInt_int, asBool_bool, asNil_nil]
      rw [wp_call, WpF.eq (ev_roots_nil h3), asSlice_slice, wp_ret]
      exact ⟨_, rfl, rfl⟩
end Go.Pg
