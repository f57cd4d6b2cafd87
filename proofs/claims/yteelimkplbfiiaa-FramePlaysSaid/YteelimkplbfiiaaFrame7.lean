/- Layer 17: the stack's Cut. -/
import Derived.Test.YteelimkplbfiiaaFrame6
namespace Go.Pg
open Go.Proofs

section
variable {σ : AHeap} {S room : Nat} {Y : Nat → Prop} {vs : List Fv}

/-- The added words of the top, cut. -/
theorem wp_cutTop {v : Fv} (h : Stk σ S room Y (vs ++ [v])) {a : Nat} (ha : a ≤ v.ad.length) {Q : Post}
    (hQ : ∀ σ', Frm σ σ' (fun j => ¬ Y j) → Stk σ' S room Y (vs ++ [⟨v.back, v.call, v.sl, v.ad.take a⟩]) → Q .ret [.int .i64 0] σ') : Wp PROG ov0 (T23k2 (some (PA S)) (a : Nat) (.exit 0) []) σ Q := by
  have hfit := h.fit
  obtain ⟨h0, c, fs, f, h1, rfl, rfl, hY⟩ := h.snoc
  obtain ⟨p, cap, h4, h5, h6⟩ := h1.blk
  have ht : total (fs ++ [f]) = tot (fs.map vw ++ [vw f]) := by rw [← tot_vw]; simp
  have hsz : f.ad.length ≤ total (fs ++ [f]) := by rw [total_snoc]; unfold fsize; omega
  obtain ⟨g1, soff, ss, scap, ap, acap, g2, g3, g4, g5⟩ := h1.ok f (by simp)
  have ho := h1.out f (by simp)
  have hob := ho f.b (.inl rfl)
  have hos := ho f.sb (.inr (.inl rfl))
  have hoa := ho f.ab (.inr (.inr rfl))
  have hS := h1.lt
  have ha' : a ≤ f.ad.length := ha
  have hcap := g4.cap
  simp only [ints_len] at hcap
  simp only [T23k2, sw_same, asNil_nil]
  rw [wp_call, WpF.eq (ev_top h1)]
  simp only [asPtr_ptr, asSome_some]
  rw [wp_join, wp_bif, if_pos (by rfl), wp_ldF h4 rfl, asInt_int, wp_ldF g2 rfl, asSlice_slice]
  have hal : (f.ad.take a).length = a := by rw [List.length_take]; omega
  obtain ⟨f', hf'⟩ : ∃ f' : Fr, f' = ⟨f.b, f.sb, f.ab, f.back, f.call, f.sl, f.ad.take a⟩ := ⟨_, rfl⟩
  have hsz' : fsize f' + (f.ad.length - a) = fsize f := by subst hf'; unfold fsize; rw [hal]; simp only; omega
  have ht' : total (fs ++ [f']) + (f.ad.length - a) = total (fs ++ [f]) := by rw [total_snoc, total_snoc]; omega
  have e1 : wi64 (((total (fs ++ [f]) : Nat) : Int) - wi64 (((f.ad.length : Nat) : Int) - (a : Nat))) = ((total (fs ++ [f']) : Nat) : Int) := by
    rw [wi64_in (n := ((f.ad.length : Nat) : Int) - (a : Nat)) (by omega), wi64_in (by omega)]; omega
  rw [e1]
  refine wp_st1Q h4 (by simp) rfl fun σ1 hF1 hn1 hS1 => ?_
  have g2a := hF1.st g2 hob.2.1
  rw [wp_ldF g2a rfl, asSlice_slice, wp_grd]
  refine ⟨by simp; omega, ?_⟩
  refine wp_st1Q g2a (by simp) rfl fun σ2 hF2 hn2 hb2 => ?_
  rw [wp_ret]
  simp only [T23k1, sw_same, asNil_nil]
  rw [wp_ret]
  simp only [List.set, Int.toNat_natCast] at hb2
  have hS2 := hF2.st hS1 hob.2.1.symm
  have hok : FrOK σ2 f' := by
    subst hf'
    refine ⟨g1, soff, ss, scap, ap, acap, ?_, hF2.row (hF1.row g3 hos.2.1) fun he => g1 he.symm, ?_, g5⟩
    · rw [hal]
      exact hb2
    · have := ((g4.frm hF1 fun _ => hoa.2.1).frm hF2 fun hp => (g5 hp).1).take a
      rw [show (ints .u64 f.ad).take a = ints .u64 (f.ad.take a) by simp [ints, List.map_take]] at this
      exact this
  have hown : ∀ i, own f' i → own f i ∨ (σ.n ≤ i ∧ i < σ2.n) := by
    subst hf'
    intro i hi
    exact .inl hi
  have hF : Frm σ σ2 (fun j => j = S ∨ own f j) := hF1.trans hF2 (fun j _ h => .inl h) (fun j _ h => .inr (.inl h))
  have hfs := h1.top h5 h6 hF (f' := f') (by subst hf'; rfl) (by simpa using hS2) hok hown (by have := h1.fit; omega)
  have := Stk.topTo h0 hY hF.n hfs fun i hi => (hown i hi).imp id fun h => h.1
  refine hQ σ2 (hF.mono fun j _ hj hy => by
    rcases hj with hj | hj
    · exact (hY j hy).1 hj
    · exact (hY j hy).2.2.2 hj) ?_
  subst hf'
  exact this

/-- Frames are dropped, down to D. -/
theorem wp_drops (h : Stk σ S room Y vs) {D : Nat} (hD : D ≤ vs.length) {k : Ex → List Value → Pg} {Q : Post}
    (hQ : ∀ σ', Frm σ σ' (fun j => ¬ Y j) → Stk σ' S room Y (vs.take D) → Wp PROG ov0 (k (.exit 0) []) σ' Q) : Wp PROG ov0 (.loop [] (T23b0 (some (PA S)) (D : Nat)) k) σ Q := by
  have hfit := h.fit
  refine Wp.count (vs.length - D) (fun j st σ' => st = [] ∧ Frm σ σ' (fun j => ¬ Y j) ∧ Stk σ' S room Y (vs.take (vs.length - j))) ⟨rfl, Frm.refl _ _, by simpa using h⟩ ?_ ?_
  · rintro j st σ1 hj ⟨rfl, hF1, h1⟩
    obtain ⟨m, hm⟩ : ∃ m, vs.length - j = m + 1 := ⟨vs.length - j - 1, by omega⟩
    rw [hm, List.take_succ_eq_append_getElem (by omega)] at h1
    have hml : (vs.take m).length = m := by rw [List.length_take]; omega
    obtain ⟨h0, c, fs, f, h2, e1, e2, hY⟩ := h1.snoc
    obtain ⟨p, cap, h4, h5, h6⟩ := h2.blk
    have hfl : fs.length = m := by
      have := congrArg List.length e1
      rw [List.length_map, hml] at this
      exact this
    simp only [T23b0, asNil_nil]
    rw [wp_fld h4 rfl, asSlice_slice, wp_bif, if_pos (by simp; omega), wp_join, wp_call]
    refine wp_dropK h2 fun σ2 hF2 h3 => ?_
    rw [asTuple_tuple, asNil_nil, wp_ret]
    simp only [T23k0, sw_same, asNil_nil]
    rw [wp_ret]
    refine ⟨rfl, hF1.trans hF2 (fun j _ h => h) (fun j _ e hy => by subst e; exact (hY _ hy).1 rfl), ?_⟩
    rw [show vs.length - (j + 1) = m by omega]
    exact ⟨fun i hi => Nat.lt_of_lt_of_le (h0 i hi) hF2.n, c, fs, h3, e1, fun i hi => ⟨(hY i hi).1, (hY i hi).2.1, (hY i hi).2.2.1⟩⟩
  · rintro st σ1 ⟨rfl, hF1, h1⟩
    rw [show vs.length - (vs.length - D) = D by omega] at h1
    obtain ⟨h0, c, frs, h2, e1, hY⟩ := h1
    obtain ⟨p, cap, h4, h5, h6⟩ := h2.blk
    have hfl : frs.length = D := by
      have := congrArg List.length e1
      rw [List.length_map, List.length_take] at this
      omega
    simp only [T23b0, asNil_nil]
    rw [wp_fld h4 rfl, asSlice_slice, wp_bif, if_neg (by simp; omega), wp_ret]
    exact hQ σ1 hF1 ⟨h0, c, frs, h2, e1, hY⟩

/-- Cut. -/
theorem wp_cutK (h : Stk σ S room Y vs) (d a : Int) {Q : Value → AHeap → Prop}
    (hQ0 : mayCutV vs d a = false → Q (.int .i64 1) σ) (hQ1 : mayCutV vs d a = true → ∀ σ', Frm σ σ' (fun j => ¬ Y j) → Stk σ' S room Y (cutV vs d.toNat a.toNat) → Q (.int .i64 0) σ') : WpF PROG ov0 23 [PV S, .int .i64 d, .int .i64 a] σ Q := by
  have hfit := h.fit
  have key : ∀ b, b = !mayCutV vs d a → Wp PROG ov0 (T23k3 (some (PA S)) d a .normal [.bool b]) σ fun _ vs σ' => ∃ v, vs = [v] ∧ Q v σ' := by
    rintro b rfl
    simp only [T23k3, sw_same, asCons_cons, asBool_bool, asNil_nil]
    rw [wp_bif]
    cases hm : mayCutV vs d a with
    | false =>
      rw [if_pos (by rfl), wp_ret]
      exact ⟨_, rfl, hQ0 hm⟩
    | true =>
      have hd : 0 ≤ d ∧ d ≤ (vs.length : Nat) := by
        by_cases hh : d < 0 ∨ d > (vs.length : Nat)
        · rw [mayCut_out hh] at hm
          cases hm
        · omega
      obtain ⟨D, rfl⟩ : ∃ D : Nat, d = (D : Int) := ⟨d.toNat, by omega⟩
      rw [if_neg (by simp)]
      refine wp_drops h (D := D) (by omega) fun σ1 hF1 h1 => ?_
      by_cases hD : D = 0
      · subst hD
        rw [List.take_zero] at h1
        obtain ⟨c, hS⟩ := h1.nil
        simp only [T23k2, sw_same, asNil_nil]
        rw [wp_call, WpF.eq (ev_top_none hS), asPtr_ptr, wp_join, wp_bif, if_neg (by simp), wp_ret]
        simp only [T23k1, sw_same, asNil_nil]
        rw [wp_ret]
        refine ⟨_, rfl, hQ1 hm σ1 hF1 ?_⟩
        rw [show ((0 : Nat) : Int).toNat = 0 from rfl, cutV_zero]
        exact h1
      · obtain ⟨E, rfl⟩ : ∃ E, D = E + 1 := ⟨D - 1, by omega⟩
        have hE : E < vs.length := by omega
        have hmc := mayCut_succ hE a
        rw [hmc] at hm
        simp only [Bool.and_eq_true, decide_eq_true_eq] at hm
        obtain ⟨A, rfl⟩ : ∃ A : Nat, a = (A : Int) := ⟨a.toNat, by omega⟩
        rw [List.take_succ_eq_append_getElem hE] at h1
        refine wp_cutTop h1 (a := A) (by omega) fun σ2 hF2 h2 => ?_
        refine ⟨_, rfl, hQ1 (by rw [hmc]; simp; omega) σ2 (hF1.trans hF2 (fun _ _ h => h) fun _ _ h => h) ?_⟩
        rw [Int.toNat_natCast, Int.toNat_natCast, cutV_succ hE]
        exact h2
  refine WpF.of (T23_eq _ _ _) rfl ?_
  obtain ⟨h0, c, frs, h2, e1, hY⟩ := h
  obtain ⟨p, cap, h4, h5, h6⟩ := h2.blk
  have hfl : frs.length = vs.length := by rw [← e1, List.length_map]
  rw [T23, wp_join, wp_bif]
  by_cases c1 : d < 0
  · rw [if_neg (by simp; omega), wp_ret]
    simp only [T23k4, sw_same, asCons_cons, asBool_bool, asNil_nil]
    rw [wp_bif, if_pos rfl, wp_ret]
    exact ⟨_, rfl, hQ0 (mayCut_out (.inl c1) a)⟩
  · rw [if_pos (by simp; omega), wp_fld h4 rfl, asSlice_slice, wp_ret]
    simp only [T23k4, sw_same, asCons_cons, asBool_bool, asNil_nil]
    rw [wp_bif]
    by_cases c2 : d > (vs.length : Nat) ∨ a < 0
    · rw [if_pos (by simp; omega), wp_ret]
      refine ⟨_, rfl, hQ0 ?_⟩
      rcases c2 with c2 | c2
      · exact mayCut_out (.inr c2) a
      · unfold mayCutV
        rw [show decide (0 ≤ a) = false by simp; omega]
        simp
    · rw [if_neg (by simp; omega), wp_join, wp_bif]
      obtain ⟨D, rfl⟩ : ∃ D : Nat, d = (D : Int) := ⟨d.toNat, by omega⟩
      by_cases hD : D = 0
      · subst hD
        have hm := mayCut_zero vs a
        rw [show ((0 : Nat) : Int) = 0 from rfl] at key ⊢
        by_cases c3 : a = 0
        · subst c3
          rw [if_pos (by simp), wp_bif, if_neg (by simp), wp_ret]
          exact key _ (by rw [hm]; rfl)
        · rw [if_neg (by simp; omega), wp_ret]
          have hm' : mayCutV vs 0 a = false := by rw [hm]; simp; omega
          exact key _ (by rw [hm']; rfl)
      · obtain ⟨E, rfl⟩ : ∃ E, D = E + 1 := ⟨D - 1, by omega⟩
        have hE : E < vs.length := by omega
        have hE' : E < frs.length := by omega
        have hm := mayCut_succ hE a
        have hei : wi64 (((E + 1 : Nat) : Int) - 1) = ((E : Nat) : Int) := by rw [wi64_in (by omega)]; omega
        obtain ⟨off, s, rfl, hR⟩ : ∃ off s, p = some ⟨c, off, some s⟩ ∧ Row σ c off s cap 1 (frs.map fun f => PV f.b) := by
          rcases h5 with ⟨_, _, e⟩ | h
          · have : frs = [] := by simpa using e
            rw [this] at hE'
            simp at hE'
          · exact h
        have hpb : (frs.map fun f => PV f.b)[E]? = some (PV frs[E].b) := by simp [hE']
        obtain ⟨g1, soff, ss, scap, ap, acap, g2, g3, g4, g5⟩ := h2.ok frs[E] (List.getElem_mem hE')
        have hvE : vs[E] = vw frs[E] := by subst e1; simp
        have e0 : (decide (0 ≤ ((E : Nat) : Int)) && decide (((E : Nat) : Int) < ((frs.length : Nat) : Int))) = true := by simp; omega
        rw [if_pos (by simp; omega), wp_bif, if_pos (by simp), wp_fld h4 rfl, asSlice_slice, hei]
        simp only [asSome_some]
        rw [wp_grd, e0, Int.toNat_natCast, wp_rowR hR hpb, asPtr_ptr]
        simp only [asSome_some]
        refine ⟨trivial, ?_⟩
        rw [wp_ldF g2 rfl, asSlice_slice, wp_ret]
        refine key _ ?_
        rw [hm, hvE]
        have e1 : decide (0 ≤ a) = true := by simp; omega
        rw [e1]
        simp only [vw]
        by_cases hq : a ≤ ((frs[E].ad.length : Nat) : Int)
        · simp [hq]
        · simp [hq]; omega
end
end Go.Pg
