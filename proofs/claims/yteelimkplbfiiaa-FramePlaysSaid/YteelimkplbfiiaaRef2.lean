/- Layer 17: the document's stack: Set, Pop, Take. -/
import Derived.Test.YteelimkplbfiiaaRef1
namespace Go.Pg
open Go.Proofs

theorem rrow_cons (f : Rf) (l : List Rf) : rrow (f :: l) = rcells f ++ rrow l := by simp [rrow]
theorem rrow_mid (fs gs : List Rf) (f : Rf) : rrow (fs ++ f :: gs) = rrow fs ++ (rcells f ++ rrow gs) := by rw [rrow_append, rrow_cons]
theorem rrow_set {fs gs : List Rf} {f f' : Rf} {o : Nat} {v : Value} (ho : o < 4) (hf : rcells f' = (rcells f).set o v) : (rrow (fs ++ f :: gs)).take (fs.length * 4 + o) ++ [v] ++ (rrow (fs ++ f :: gs)).drop (fs.length * 4 + o + [v].length) = rrow (fs ++ f' :: gs) := by
  have hlen : fs.length * 4 + o < (rrow (fs ++ f :: gs)).length := by
    rw [rrow_len]
    simp only [List.length_append, List.length_cons]
    omega
  have e : (rrow (fs ++ f :: gs)).set (fs.length * 4 + o) v = rrow (fs ++ f' :: gs) := by
    rw [rrow_mid, rrow_mid, List.set_append_right _ _ (by rw [rrow_len]; omega), rrow_len, show fs.length * 4 + o - fs.length * 4 = o by omega, List.set_append_left _ _ (by rw [rcells_len]; exact ho), hf]
  rw [← e, List.set_eq_take_append_cons_drop, if_pos hlen]
  simp

section
variable {P : Program} {ov : Ov} {σ : AHeap}
/-- A frame's slot is written. -/
theorem wp_frW {c cap : Nat} {p : Option Addr} {fs gs : List Rf} {f f' : Rf} {o : Nat} {v : Value} {q : Pg} {Q : Post} (hE : SlE σ c p cap 4 (rrow (fs ++ f :: gs))) (ho : o < 4) (hv : one v = true) (hf : rcells f' = (rcells f).set o v)
    (k : ∀ σ', Frm σ σ' (· = c) → σ'.n = σ.n → SlE σ' c p cap 4 (rrow (fs ++ f' :: gs)) → Wp P ov q σ' Q) :
    Wp P ov (asSome p fun a => grd (decide (0 ≤ ((fs.length : Nat) : Int)) && decide (((fs.length : Nat) : Int) < (((fs ++ f :: gs).length : Nat) : Int))) (.act (stC (aadd (aadd a ((Int.toNat ((fs.length : Nat) : Int)) * 4)) o) [v]) fun v => asTuple v fun l => asNil l q)) σ Q := by
  have hlen := rrow_len (fs ++ f :: gs)
  simp only [List.length_append, List.length_cons] at hlen
  rcases hE with ⟨_, _, e⟩ | ⟨off, s, rfl, hE⟩
  · rw [e] at hlen
    simp at hlen
  · have e : (decide (0 ≤ ((fs.length : Nat) : Int)) && decide (((fs.length : Nat) : Int) < (((fs ++ f :: gs).length : Nat) : Int))) = true := by simp; omega
    have hl := hE.len
    obtain ⟨σ', w1, w2, w3, w4, w5⟩ := hE.wrN (i := fs.length * 4 + o) (vs := [v]) (by omega) (by simp only [List.length_singleton]; omega) (by intro x hx; simp at hx; subst hx; exact hv)
    simp only [asSome_some]
    rw [wp_grd, e, Int.toNat_natCast, wp_act, show aadd (aadd ⟨c, off, some s⟩ (fs.length * 4)) o = ⟨c, off + (fs.length * 4 + o), some s⟩ from by simp [aadd, Nat.add_assoc]]
    unfold stC
    rw [w1]
    simp only [asTuple_tuple, asNil_nil]
    refine ⟨trivial, k σ' (Frm.of1 hE.lt w2 w3 w4) w2 (.inr ⟨off, s, rfl, ?_⟩)⟩
    rw [rrow_set ho hf] at w5
    exact w5
theorem RS.pne {S room c n cap : Nat} {p : Option Addr} {fs gs : List Rf} {f : Rf} (h : RS σ S room c p n cap (fs ++ f :: gs)) : p ≠ none := by
  rintro rfl
  rcases h.row with ⟨_, _, e⟩ | ⟨_, _, e, _⟩
  · have := rrow_len (fs ++ f :: gs)
    rw [e] at this
    simp at this
  · cases e
theorem RS.upd {σ' : AHeap} {S room c n cap : Nat} {p : Option Addr} {fs gs : List Rf} {f f' : Rf} (h : RS σ S room c p n cap (fs ++ f :: gs)) (hst : St σ' S [.int .i64 (room : Nat), .slice p (fs ++ f' :: gs).length n]) (hrow : SlE σ' c p cap 4 (rrow (fs ++ f' :: gs)))
    (hok : ∀ g, g ∈ fs ∨ g ∈ gs → RfOK σ' g) (hf : RfOK σ' f') (hs : ∀ i, slB f' i → slB f i ∨ σ.n ≤ i) (ha : ∀ i, adB f' i → adB f i ∨ σ.n ≤ i) (ho : ∀ i, slB f' i → ¬ adB f' i) : RS σ' S room c p n cap (fs ++ f' :: gs) := by
  have hc := h.row.lt h.pne
  have hS := h.st.1
  have hu : ∀ i, uses f' i → uses f i ∨ σ.n ≤ i := fun i hi => by
    rcases hi with hi | hi
    · exact (hs i hi).imp .inl id
    · exact (ha i hi).imp .inr id
  have hlt : ∀ g, g ∈ fs ∨ g ∈ gs → ∀ i, uses g i → i < σ.n := fun g hg i hi => (h.ok g (by rcases hg with hg | hg <;> simp [hg])).lt hi
  have hsep := h.sep
  rw [List.pairwise_append, List.pairwise_cons] at hsep
  obtain ⟨s1, ⟨s2, s3⟩, s4⟩ := hsep
  refine { st := hst, row := hrow, ln := by have := h.ln; simpa using this, cS := fun _ => h.cS (by simp), ok := fun g hg => ?_, out := fun g hg i hi => ?_, sep := ?_, own := fun g hg i hi => ?_ }
  · simp only [List.mem_append, List.mem_cons] at hg
    rcases hg with hg | rfl | hg
    · exact hok g (.inl hg)
    · exact hf
    · exact hok g (.inr hg)
  · simp only [List.mem_append, List.mem_cons] at hg
    rcases hg with hg | rfl | hg
    · exact h.out g (by simp [hg]) i hi
    · rcases hu i hi with hi | hi
      · exact h.out f (by simp) i hi
      · exact ⟨by omega, by omega⟩
    · exact h.out g (by simp [hg]) i hi
  · rw [List.pairwise_append, List.pairwise_cons]
    refine ⟨s1, ⟨fun g hg => ⟨fun i hi hj => ?_, fun i hi hj => ?_⟩, s3⟩, fun a ha' b hb => ?_⟩
    · rcases hs i hi with hi | hi
      · exact (s2 g hg).1 i hi hj
      · have := hlt g (.inr hg) i hj
        omega
    · rcases hu i hj with hj | hj
      · exact (s2 g hg).2 i hi hj
      · have := hlt g (.inr hg) i (.inl hi)
        omega
    · simp only [List.mem_cons] at hb
      rcases hb with rfl | hb
      · refine ⟨fun i hi hj => ?_, fun i hi hj => ?_⟩
        · rcases hu i hj with hj | hj
          · exact (s4 a ha' f (by simp)).1 i hi hj
          · have := hlt a (.inl ha') i (.inl hi)
            omega
        · rcases hs i hi with hi | hi
          · exact (s4 a ha' f (by simp)).2 i hi hj
          · have := hlt a (.inl ha') i hj
            omega
      · exact s4 a ha' b (by simp [hb])
  · simp only [List.mem_append, List.mem_cons] at hg
    rcases hg with hg | rfl | hg
    · exact h.own g (by simp [hg]) i hi
    · exact ho i hi
    · exact h.own g (by simp [hg]) i hi
end

section
variable {σ : AHeap} {S room : Nat} {Y : Nat → Prop} {vs : List Fv}

theorem Frm.any {σ σ' : AHeap} {T U : Nat → Prop} (h : Frm σ σ' T) (hT : ∀ i, T i → U i) : Frm σ σ' U := h.mono fun j _ hj => hT j hj

/-- Set. -/
theorem wp_setR_none (h : RK σ S room Y []) (i w : Int) : EvF PROG ov0 28 [PV S, .int .i64 i, .int .u64 w] σ (.int .i64 4) σ := by
  refine EvF.of (T28_eq _ _ _) rfl ?_
  rw [T28, wp_call, WpF.eq (ev_getR_none h i)]
  simp only [asTuple_tuple, asCons_cons, asInt_int, asNil_nil]
  rw [wp_join, wp_bif, if_neg (by simp), wp_ret]
  simp only [T28k0, sw_same, asNil_nil]
  rw [wp_ret]
  exact ⟨rfl, rfl⟩
theorem wp_setR_out {v : Fv} (h : RK σ S room Y (vs ++ [v])) (i w : Int) (hi : ¬ (0 ≤ i ∧ i < (v.sl.length : Nat))) : EvF PROG ov0 28 [PV S, .int .i64 i, .int .u64 w] σ (.int .i64 1) σ := by
  refine EvF.of (T28_eq _ _ _) rfl ?_
  rw [T28, wp_call, WpF.eq (ev_getR h i), if_neg hi]
  simp only [asTuple_tuple, asCons_cons, asInt_int, asNil_nil]
  rw [wp_join, wp_bif, if_neg (by simp), wp_ret]
  simp only [T28k0, sw_same, asNil_nil]
  rw [wp_ret]
  exact ⟨rfl, rfl⟩
theorem wp_setR {v : Fv} (h : RK σ S room Y (vs ++ [v])) (i : Nat) (w : Int) (hi : i < v.sl.length) {Q : Value → AHeap → Prop}
    (hQ : ∀ σ', Frm σ σ' (fun j => ¬ Y j) → RK σ' S room Y (vs ++ [{ v with sl := v.sl.set i w }]) → Q (.int .i64 0) σ') : WpF PROG ov0 28 [PV S, .int .i64 (i : Nat), .int .u64 w] σ Q := by
  have hget := ev_getR h (i : Int)
  rw [if_pos ⟨by omega, by omega⟩] at hget
  obtain ⟨h0, h1, h2, c, p, n, cap, fs, f, h3, rfl, rfl, h5, h6, h7⟩ := h.snoc
  have hl := tot_len (fs.map rvw ++ [rvw f])
  simp only [List.length_append, List.length_map, List.length_cons, List.length_nil] at hl
  have hli := last_idx fs f (by omega)
  have hok := h3.ok f (by simp)
  have hi' : i < f.sl.length := hi
  refine WpF.of (T28_eq _ _ _) rfl ?_
  rw [T28, wp_call, WpF.eq hget]
  simp only [asTuple_tuple, asCons_cons, asInt_int, asNil_nil]
  rw [wp_join, wp_bif, if_pos (by rfl), wp_fld h3.st rfl, asSlice_slice, wp_fld h3.st rfl, asSlice_slice, hli, wp_fr h3.row (j := fs.length) (by simp) (by decide) (by rw [last_get]; rfl), asSlice_slice]
  obtain ⟨bs, off, s, hsp, hR⟩ : ∃ bs off s, f.sp = some ⟨bs, off, some s⟩ ∧ f.sb = bs ∧ Row σ bs off s f.sk 1 (ints .u64 f.sl) := by
    rcases hok.s with ⟨_, _, e⟩ | ⟨off, s, e, hR⟩
    · have : f.sl = [] := by simpa using e
      rw [this] at hi'
      simp at hi'
    · exact ⟨f.sb, off, s, e, rfl, hR⟩
  obtain ⟨rfl, hR⟩ := hR
  have e0 : (decide (0 ≤ ((i : Nat) : Int)) && decide (((i : Nat) : Int) < ((f.sl.length : Nat) : Int))) = true := by simp; omega
  rw [hsp]
  simp only [asSome_some]
  rw [wp_grd, e0, Int.toNat_natCast]
  refine ⟨rfl, ?_⟩
  refine wp_rowW hR (by simpa using hi') rfl fun σ1 hF1 hn1 hR1 => ?_
  rw [wp_ret]
  simp only [T28k0, sw_same, asNil_nil]
  rw [wp_ret]
  have hsb : slB f f.sb := ⟨by rw [hsp]; simp, rfl⟩
  have hout := h3.out f (by simp) _ (.inl hsb)
  have heq : (ints .u64 f.sl).set i (.int .u64 w) = ints .u64 (f.sl.set i w) := by simp [ints, List.map_set]
  rw [heq] at hR1
  refine ⟨_, rfl, hQ σ1 (hF1.any fun j e hy => by subst e; exact h7 f (by simp) _ (.inl hsb) hy) ⟨fun j hj => by rw [hn1]; exact h0 j hj, ?_, h2, c, p, n, cap, fs ++ [{ f with sl := f.sl.set i w }], ?_, by simp [rvw], h5, h6, ?_⟩⟩
  · have : tot (fs.map rvw ++ [{ rvw f with sl := (rvw f).sl.set i w }]) = tot (fs.map rvw ++ [rvw f]) := by rw [tot_snoc, tot_snoc]; simp [fsz]
    rw [this]
    exact h1
  · have hsep := h3.sep
    rw [List.pairwise_append] at hsep
    refine h3.upd (f' := { f with sl := f.sl.set i w }) (gs := []) ?_ ?_ (fun g hg => ?_) ⟨?_, ?_, hok.c⟩ (fun i hi => .inl hi) (fun i hi => .inl hi) (h3.own f (by simp))
    · have := hF1.st h3.st fun e => hout.1 e.symm
      simpa using this
    · have := h3.row.frm hF1 fun _ e => hout.2 e.symm
      have er : rrow (fs ++ [{ f with sl := f.sl.set i w }]) = rrow (fs ++ [f]) := by
        rw [rrow_append, rrow_append]
        congr 1
        simp [rrow, rcells]
      rw [er]
      exact this
    · rcases hg with hg | hg
      · exact (h3.ok g (by simp [hg])).frm hF1 fun j hj e => by
          subst e
          exact (hsep.2.2 g hg f (by simp)).2 _ hsb hj
      · cases hg
    · exact .inr ⟨off, s, hsp, hR1⟩
    · exact hok.a.frm hF1 fun hp e => h3.own f (by simp) _ hsb ⟨hp, e.symm⟩
  · intro g hg j hj
    simp only [List.mem_append, List.mem_cons, List.mem_nil_iff, or_false] at hg
    rcases hg with hg | rfl
    · exact h7 g (by simp [hg]) j hj
    · exact h7 f (by simp) j hj

/-- Pop. -/
theorem ev_popR_none (h : RK σ S room Y []) : EvF PROG ov0 27 [PV S] σ (.tuple #[.int .i64 0, .int .i64 0, .int .i64 4]) σ := by
  obtain ⟨_, h1, h2, c, p, n, cap, frs, h3, h4, _⟩ := h
  obtain rfl : frs = [] := by simpa using h4
  refine EvF.of (T27_eq _) rfl ?_
  rw [T27, wp_fld h3.st rfl, asSlice_slice, wp_bif, if_pos (by rfl), wp_ret]
  exact ⟨rfl, rfl⟩
theorem wp_popR {v : Fv} (h : RK σ S room Y (vs ++ [v])) {Q : Value → AHeap → Prop}
    (hQ : ∀ σ', Frm σ σ' (fun j => ¬ Y j) → RK σ' S room Y vs → Q (.tuple #[.int .i64 v.back, .int .i64 v.call, .int .i64 0]) σ') : WpF PROG ov0 27 [PV S] σ Q := by
  obtain ⟨h0, h1, h2, c, p, n, cap, fs, f, h3, rfl, rfl, h5, h6, h7⟩ := h.snoc
  have hl := tot_len (fs.map rvw ++ [rvw f])
  simp only [List.length_append, List.length_map, List.length_cons, List.length_nil] at hl
  have hli := last_idx fs f (by omega)
  obtain ⟨off, s, rfl, hR⟩ : ∃ off s, p = some ⟨c, off, some s⟩ ∧ Row σ c off s cap 4 (rrow (fs ++ [f])) := by
    rcases h3.row with ⟨e, _⟩ | h
    · exact absurd e h3.pne
    · exact h
  refine WpF.of (T27_eq _) rfl ?_
  rw [T27, wp_fld h3.st rfl, asSlice_slice, wp_bif, if_neg (by simp; omega), wp_fld h3.st rfl, asSlice_slice, hli]
  simp only [asSome_some]
  have e0 : (decide (0 ≤ ((fs.length : Nat) : Int)) && decide (((fs.length : Nat) : Int) < (((fs ++ [f]).length : Nat) : Int))) = true := by simp; omega
  rw [wp_grd, e0, Int.toNat_natCast, wp_rowA hR (by rw [rrow_len]; simp; omega)]
  refine ⟨rfl, ?_⟩
  have er : ((rrow (fs ++ [f])).drop (fs.length * 4)).take 4 = rcells f := by
    rw [rrow_append, List.drop_left' (rrow_len fs)]
    simp [rrow, rcells]
  rw [er]
  simp only [rcells, asAgg_agg, asCons_cons, asInt_int, asSlice_slice, asNil_nil]
  refine wp_newQ fun σ1 hF1 hn1 hS1 => ?_
  refine wp_stQ hS1 rfl rfl fun σ2 hF2 hn2 hX2 => ?_
  have hF02 : Frm σ σ2 NoB := hF1.fresh hF2 fun i hi e => by omega
  have hS2 := hF02.stN h3.st
  have hne : σ.n ≠ S := by have := h3.st.1; omega
  rw [wp_ldF hS2 rfl, asSlice_slice, wp_grd]
  have hln := h3.ln
  simp only [List.length_append, List.length_cons, List.length_nil] at hln
  refine ⟨by simp; omega, ?_⟩
  refine wp_st1Q hS2 (by simp) rfl fun σ3 hF3 hn3 hS3 => ?_
  simp only [List.set] at hS3
  have hX3 := hF3.st hX2 hne
  rw [wp_ldF hX3 rfl, asInt_int, wp_ldF hX3 rfl, asInt_int, wp_ret]
  have hF03 : Frm σ σ3 (· = S) := hF02.no.trans hF3 (fun _ _ h => h) fun _ _ h => h
  have htk : (rrow (fs ++ [f])).take (fs.length * 4) = rrow fs := by rw [rrow_append, List.take_left' (rrow_len fs)]
  have hcS := h3.cS (by simp)
  have hsep := h3.sep
  rw [List.pairwise_append] at hsep
  refine ⟨_, rfl, hQ σ3 (hF03.any fun j e hy => by subst e; exact h5 hy) ⟨fun j hj => by have := h0 j hj; have := hF03.n; omega, by rw [tot_snoc] at h1; omega, h2, c, _, fs.length, cap, fs, ⟨hS3, ?_, Nat.le_refl _, fun _ => hcS, fun g hg => (h3.ok g (by simp [hg])).frm hF03 fun j hj e => (h3.out g (by simp [hg]) j hj).1 e, fun g hg => h3.out g (by simp [hg]), hsep.1, fun g hg => h3.own g (by simp [hg])⟩, rfl, h5, h6, fun g hg => h7 g (by simp [hg])⟩⟩
  have hR3 := hF03.row hR hcS
  have := hR3.take (fs.length * 4)
  rw [htk] at this
  exact .inr ⟨off, s, rfl, this⟩

/-- Take. -/
theorem ev_takeR_none (h : RK σ S room Y []) : EvF PROG ov0 30 [PV S] σ (.tuple #[.int .u64 0, .int .i64 4]) σ := by
  obtain ⟨_, h1, h2, c, p, n, cap, frs, h3, h4, _⟩ := h
  obtain rfl : frs = [] := by simpa using h4
  refine EvF.of (T30_eq _) rfl ?_
  rw [T30, wp_fld h3.st rfl, asSlice_slice, wp_join, wp_bif, if_neg (by simp), wp_ret]
  simp only [T30k0, sw_same, asCons_cons, asBool_bool, asNil_nil]
  rw [wp_bif, if_pos rfl, wp_ret]
  exact ⟨rfl, rfl⟩
theorem ev_takeR_out {v : Fv} (h : RK σ S room Y (vs ++ [v])) (hv : v.ad = []) : EvF PROG ov0 30 [PV S] σ (.tuple #[.int .u64 0, .int .i64 4]) σ := by
  obtain ⟨_, h1, h2, c, p, n, cap, fs, f, h3, rfl, rfl, _⟩ := h.snoc
  have hl := tot_len (fs.map rvw ++ [rvw f])
  simp only [List.length_append, List.length_map, List.length_cons, List.length_nil] at hl
  have hli := last_idx fs f (by omega)
  have hv' : f.ad = [] := hv
  refine EvF.of (T30_eq _) rfl ?_
  rw [T30, wp_fld h3.st rfl, asSlice_slice, wp_join, wp_bif, if_pos (by simp; omega), wp_fld h3.st rfl, asSlice_slice, hli, wp_fr h3.row (j := fs.length) (by simp) (by decide) (by rw [last_get]; rfl), asSlice_slice, wp_ret]
  simp only [T30k0, sw_same, asCons_cons, asBool_bool, asNil_nil]
  rw [wp_bif, if_pos (by simp [hv']), wp_ret]
  exact ⟨rfl, rfl⟩
theorem wp_takeR {v : Fv} (h : RK σ S room Y (vs ++ [v])) {l : List Int} {w : Int} (hv : v.ad = l ++ [w]) {Q : Value → AHeap → Prop}
    (hQ : ∀ σ', Frm σ σ' (fun j => ¬ Y j) → RK σ' S room Y (vs ++ [{ v with ad := l }]) → Q (.tuple #[.int .u64 w, .int .i64 0]) σ') : WpF PROG ov0 30 [PV S] σ Q := by
  obtain ⟨h0, h1, h2, c, p, n, cap, fs, f, h3, rfl, rfl, h5, h6, h7⟩ := h.snoc
  have hl := tot_len (fs.map rvw ++ [rvw f])
  simp only [List.length_append, List.length_map, List.length_cons, List.length_nil] at hl
  have hli := last_idx fs f (by omega)
  have hok := h3.ok f (by simp)
  have hv' : f.ad = l ++ [w] := hv
  have hla : f.ad.length = l.length + 1 := by rw [hv']; simp
  have hsz : f.ad.length ≤ 100000 := by
    have : tot (fs.map rvw ++ [rvw f]) = tot (fs.map rvw) + fsz (rvw f) := tot_snoc _ _
    have e : fsz (rvw f) = 2 + f.sl.length + f.ad.length := rfl
    omega
  have hai : wi64 (((f.ad.length : Nat) : Int) - 1) = ((l.length : Nat) : Int) := by rw [wi64_in (by omega)]; omega
  have hcc := hok.c
  refine WpF.of (T30_eq _) rfl ?_
  rw [T30, wp_fld h3.st rfl, asSlice_slice, wp_join, wp_bif, if_pos (by simp; omega), wp_fld h3.st rfl, asSlice_slice, hli, wp_fr h3.row (j := fs.length) (by simp) (by decide) (by rw [last_get]; rfl), asSlice_slice, wp_ret]
  simp only [T30k0, sw_same, asCons_cons, asBool_bool, asNil_nil]
  rw [wp_bif, if_neg (by rw [hla]; simp; omega), wp_fld h3.st rfl, asSlice_slice, hli, wp_fr h3.row (j := fs.length) (by simp) (by decide) (by rw [last_get]; rfl), asSlice_slice, wp_fld h3.st rfl, asSlice_slice, hai, wp_grd]
  refine ⟨by simp; omega, ?_⟩
  refine wp_frW (gs := []) (f' := { f with ad := l, ac := l.length }) h3.row (by decide) rfl (by simp [rcells]) fun σ1 hF1 hn1 hE1 => ?_
  have hout : ∀ j, uses f j → j ≠ c := fun j hj => (h3.out f (by simp) j hj).2
  have hok1 := hok.frm hF1 fun j hj e => hout j hj e
  have hg : f.ad.getD l.length 0 = w := by rw [hv']; simp [List.getD]
  rw [wp_rdI hok1.a.rdB.rd (by omega) (by omega), Int.toNat_natCast, hg, wp_ret]
  have hcS := h3.cS (by simp)
  have hcY := h6 h3.pne
  refine ⟨_, rfl, hQ σ1 (hF1.any fun j e hy => by subst e; exact hcY hy) ⟨fun j hj => by rw [hn1]; exact h0 j hj, ?_, h2, c, p, n, cap, fs ++ [{ f with ad := l, ac := l.length }], ?_, by simp [rvw], h5, h6, ?_⟩⟩
  · rw [tot_snoc] at h1 ⊢
    simp only [fsz, rvw] at h1 ⊢
    omega
  · refine h3.upd (gs := []) ?_ hE1 (fun g hg => ?_) ⟨hok1.s, ?_, Nat.le_refl _⟩ (fun i hi => .inl hi) (fun i hi => .inl hi) (h3.own f (by simp))
    · have := hF1.st h3.st fun e => hcS e.symm
      simpa using this
    · rcases hg with hg | hg
      · exact (h3.ok g (by simp [hg])).frm hF1 fun j hj e => (h3.out g (by simp [hg]) j hj).2 e
      · cases hg
    · have := hok1.a.take l.length
      rw [hv'] at this
      have e : (ints .u64 (l ++ [w])).take l.length = ints .u64 l := by simp [ints]
      rw [e] at this
      exact this
  · intro g hg j hj
    simp only [List.mem_append, List.mem_cons, List.mem_nil_iff, or_false] at hg
    rcases hg with hg | rfl
    · exact h7 g (by simp [hg]) j hj
    · exact h7 f (by simp) j hj
end
end Go.Pg
