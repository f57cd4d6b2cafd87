/- Layer 17: the document's stack: Renew, of a row that is given. -/
import Derived.Test.YteelimkplbfiiaaFrame7
namespace Go.Pg
open Go.Proofs

/-- A row of words that can be read in parts, whatever else is made. -/
structure Src (old : Addr → Option Value) (p : Option Addr) (l : List Int) : Prop where
  fst : ∀ σ : AHeap, σ.old = old → ∀ o k c, o + k ≤ l.length → firstOf 1 k σ (.slice (cutS p (o * 1)) k c) = some (((ints .u64 l).drop o).take k)
  cut : mayCut p 1 = true

theorem Cl.old {old : Addr → Option Value} {a : Addr} {v : Value} (h : Cl old a v) : a.spot = none ∧ old ⟨a.block, a.off, none⟩ = some v := by
  have h1 := h (startH old) rfl
  obtain ⟨b, o, s⟩ := a
  unfold ld1 AHeap.rdN at h1
  cases s with
  | none =>
    simp only [oldN] at h1
    have e : (startH old).old = old := rfl
    rw [e] at h1
    cases ho : old ⟨b, o, none⟩ with
    | none => rw [ho] at h1; cases h1
    | some u =>
      rw [ho] at h1
      simp only [Option.some.injEq, Prod.mk.injEq, and_true] at h1
      exact ⟨rfl, by rw [h1]⟩
  | some s =>
    have e : (startH old).get b = none := by
      unfold startH AHeap.get
      show Tri.get .nil b = none
      cases b <;> rfl
    simp only [e] at h1
    cases h1
theorem oldN_all {old : Addr → Option Value} {b : Nat} : ∀ (vs : List Value) (o : Nat), (∀ i v, vs[i]? = some v → old ⟨b, o + i, none⟩ = some v) → oldN old b o vs.length = some vs
  | [], o, _ => rfl
  | v :: vs, o, h => by
    have h0 : old ⟨b, o, none⟩ = some v := by simpa using h 0 v rfl
    have ih := oldN_all vs (o + 1) fun i w hw => by
      have := h (i + 1) w hw
      rw [show o + 1 + i = o + (i + 1) by omega]
      exact this
    rw [List.length_cons, oldN, h0]
    simp only [ih]
theorem RdR.src {old : Addr → Option Value} {p : Option Addr} {l : List Int} (hs : ∀ q, p = some q → q.spot = none) (h : RdR old 1 (Sh.int IntKind.u64) p l) : Src old p l := by
  cases p with
  | none =>
    have hl : l = [] := by
      cases l with
      | nil => rfl
      | cons x l =>
        obtain ⟨y, hy, _⟩ := h 0 (by simp)
        cases hy
    subst hl
    refine ⟨fun σ hσ o k c hk => ?_, rfl⟩
    simp at hk
    obtain ⟨rfl, rfl⟩ := hk
    rfl
  | some q =>
    have hs := hs q rfl
    obtain ⟨b, o0, s⟩ := q
    simp only at hs
    subst hs
    refine ⟨fun σ hσ o k c hk => ?_, rfl⟩
    have hlen : (((Go.Pg.ints .u64 l).drop o).take k).length = k := by rw [List.length_take, List.length_drop, Go.Pg.ints_len]; omega
    have := oldN_all (old := old) (b := b) (((Go.Pg.ints .u64 l).drop o).take k) (o0 + o) fun i v hv => by
      rw [List.getElem?_take] at hv
      split at hv
      · rw [List.getElem?_drop] at hv
        have hi : o + i < l.length := by
          have := (List.getElem?_eq_some_iff.1 hv).1
          simpa using this
        obtain ⟨x, hx, h1⟩ := h (o + i) hi
        cases hx
        have h2 := (Cl.old h1).2
        simp only [aadd, Nat.mul_one] at h2
        rw [Nat.add_assoc, h2]
        rw [ints_get hi] at hv
        simp only [Option.some.injEq] at hv
        rw [← hv]
        simp [List.getD, hi]
      · cases hv
    rw [hlen] at this
    unfold firstOf cutS
    simp only [Option.map_some, aadd, Nat.mul_one]
    unfold AHeap.rdN
    simp only [hσ]
    exact this

theorem wp_frW' {P : Program} {ov : Ov} {σ : AHeap} {c cap : Nat} {p : Option Addr} {fs gs : List Rf} {f f' : Rf} {o : Nat} {v : Value} {q : Pg} {Q : Post} (hE : SlE σ c p cap 4 (rrow (fs ++ f :: gs))) (ho : o < 4) (hv : one v = true) (hf : rcells f' = (rcells f).set o v)
    (k : ∀ σ', Frm σ σ' (· = c) → σ'.n = σ.n → SlE σ' c p cap 4 (rrow (fs ++ f' :: gs)) → Wp P ov q σ' Q) :
    Wp P ov (asSome p fun a => grd (decide (0 ≤ ((fs.length : Nat) : Int)) && decide (((fs.length : Nat) : Int) < (((fs ++ f :: gs).length : Nat) : Int))) (.act (stC (aadd (aadd a (fs.length * 4)) o) [v]) fun v => asTuple v fun l => asNil l q)) σ Q := by
  have := wp_frW (P := P) (ov := ov) (q := q) (Q := Q) hE ho hv hf k
  rw [Int.toNat_natCast] at this
  exact this

section
variable {σ : AHeap} {S room : Nat} {Y : Nat → Prop} {vs : List Fv}
theorem wp_renewR_no (h : RK σ S room Y vs) {p : Option Addr} {n cap : Nat} (hn : n ≠ (flat vs).length) {Q : Value → AHeap → Prop} (hQ : ∀ σ', Frm σ σ' NoB → Q (.int .i64 1) σ') : WpF PROG ov0 32 [PV S, .slice p n cap] σ Q := by
  refine WpF.of (T32_eq _ _ _ _) rfl ?_
  rw [T32, wp_call]
  refine wp_rootsR h fun σ1 b q c hF1 hR1 hb1 => ?_
  rw [asSlice_slice, wp_bif, if_pos (by simp; omega), wp_ret]
  exact ⟨_, rfl, hQ σ1 hF1⟩
theorem wp_renewR (h : RK σ S room Y vs) {p : Option Addr} {rs : List Int} {cap : Nat} (hs : Src σ.old p rs) (hc : rs.length ≤ cap) (hn : rs.length = (flat vs).length) {Q : Value → AHeap → Prop}
    (hQ : ∀ σ' vs', Frm σ σ' (fun j => ¬ Y j) → RK σ' S room Y vs' → flat vs' = rs → vs'.map shp = vs.map shp → Q (.int .i64 0) σ') : WpF PROG ov0 32 [PV S, .slice p rs.length cap] σ Q := by
  refine WpF.of (T32_eq _ _ _ _) rfl ?_
  rw [T32, wp_call]
  refine wp_rootsR h fun σ0 b0 q0 c0 hF0 hR0 hb0 => ?_
  rw [asSlice_slice, wp_bif, if_neg (by simp; omega)]
  have hfl := flat_len vs
  obtain ⟨h0, h1, h2, c, pp, nn, kk, frs, h3, rfl, h5, h6, h7⟩ := h
  simp only [List.length_map] at hfl
  have h30 := h3.frm hF0 (fun h => h) (fun _ h => h) fun _ _ _ _ h => h
  refine Wp.count frs.length (fun j st σ' => ∃ done : List Rf, st = [.int .i64 ((j : Nat) : Int), .int .i64 (((flat (done.map rvw)).length : Nat) : Int)] ∧ done.length = j ∧ Frm σ σ' (fun i => frs ≠ [] ∧ i = c) ∧ RS σ' S room c pp nn kk (done ++ frs.drop j) ∧ (∀ g ∈ done, ∀ i, uses g i → σ.n ≤ i)
      ∧ flat (done.map rvw) = rs.take (flat (done.map rvw)).length ∧ (flat (done.map rvw)).length + (flat ((frs.drop j).map rvw)).length = rs.length ∧ done.map (fun f => shp (rvw f)) = (frs.take j).map fun f => shp (rvw f))
    ⟨[], by simp [flat], rfl, hF0.no, by simpa using h30, (fun g hg => by cases hg), by simp [flat], by simp [flat, hn], rfl⟩ ?_ ?_
  · rintro j st σ1 hj ⟨done, rfl, hdl, hF1, hRS1, hdu, hfd, hfr, hshp⟩
    have hne : frs ≠ [] := by rintro rfl; simp at hj
    rw [List.drop_eq_getElem_cons hj] at hRS1 hfr
    have hmem : frs[j] ∈ frs := List.getElem_mem hj
    have hshj := take_succ_map (fun f => shp (rvw f)) frs j hj
    have hlen : frs.length = (done ++ frs[j] :: frs.drop (j + 1)).length := by
      rw [List.length_append, List.length_cons, List.length_drop]
      omega
    generalize frs[j] = f at hRS1 hfr hmem hshj hlen
    have efl : (flat ((f :: frs.drop (j + 1)).map rvw)).length = f.sl.length + f.ad.length + (flat ((frs.drop (j + 1)).map rvw)).length := by
      unfold flat
      rw [List.map_cons, List.flatMap_cons, List.length_append]
      simp only [rvw, List.length_append]
    rw [efl] at hfr
    generalize frs.drop (j + 1) = gs at hRS1 hfr hlen efl ⊢
    generalize hd : (flat (done.map rvw)).length = d at hfd hfr
    have ej : wi64 ((j : Int) + 1) = ((j + 1 : Nat) : Int) := by rw [wi64_in (by omega)]; omega
    have ea1 : wi64 (((d : Nat) : Int) + ((f.sl.length : Nat) : Int)) = ((d + f.sl.length : Nat) : Int) := by rw [wi64_in (by omega)]; omega
    have ea2 : wi64 (((d + f.sl.length : Nat) : Int) + ((f.ad.length : Nat) : Int)) = ((d + f.sl.length + f.ad.length : Nat) : Int) := by rw [wi64_in (by omega)]; omega
    have hgd : (done ++ f :: gs)[done.length]'(by simp) = f := by simp
    have hjd : ((j : Nat) : Int) = ((done.length : Nat) : Int) := by rw [hdl]
    have hpn := hRS1.pne
    have hcY := h6 hpn
    have hclt := h3.row.lt hpn
    have hSlt := h3.st.1
    have hn1 := hF1.n
    have hcS := h3.cS hne
    have ho1 := hF1.old
    have hst1 := hRS1.st
    simp only [T32b0, asCons_cons, asInt_int, asNil_nil]
    rw [wp_fld hst1 rfl, asSlice_slice, wp_bif, if_pos (by rw [← hlen]; simp; omega), wp_join, wp_fld hst1 rfl, asSlice_slice, hjd, wp_fr hRS1.row (j := done.length) (by simp) (by decide) (by rw [hgd]; rfl), asSlice_slice, wp_fld hst1 rfl, asSlice_slice, wp_fr hRS1.row (j := done.length) (by simp) (by decide) (by rw [hgd]; rfl), asSlice_slice, ea1, ea2]
    simp only [Int.toNat_natCast, asSome_some]
    have hold : σ1.old = σ.old := ho1
    -- the slots
    rw [wp_ldF hst1 rfl, asSlice_slice, wp_act, bdSl_eq]
    simp only [asSlice_slice]
    have hF2 := Frm.new σ1 [] 1 NoB
    have hN2 := Row.new σ1 1 [] 0 (by decide) rfl (by intro x hx; cases hx)
    have hn2 := newBlk_n σ1 [] 1
    generalize σ1.newBlk [] 1 = σ2 at hF2 hN2 hn2 ⊢
    have hRS2 := hRS1.frm hF2 (fun h => h) (fun _ h => h) fun _ _ _ _ h => h
    have eS2 : (ld1 (aadd (PA S) 1)) σ2 = some (.slice pp (done ++ f :: gs).length nn, σ2) := hRS2.st.ldF rfl
    rw [wp_get, wp_grd]
    refine ⟨chks_one eS2, ?_⟩
    rw [wp_grd]
    refine ⟨by simp [hs.cut]; omega, ?_⟩
    rw [Nat.add_sub_cancel_left]
    have hsl : (((ints .u64 rs).drop d).take f.sl.length).length = f.sl.length := by rw [List.length_take, List.length_drop, ints_len]; omega
    have hone1 : ∀ y ∈ ((ints .u64 rs).drop d).take f.sl.length, one y = true := fun y hy => ints_one _ _ y (List.mem_of_mem_drop (List.mem_of_mem_take hy))
    refine wp_apE (xs := []) (.inr ⟨0, 1, rfl, hN2⟩) (by decide) (by decide) rfl (Nat.zero_le _) (hs.fst σ2 (hF2.old.trans hold) d f.sl.length _ (by omega)) hone1 (by rw [hsl]; omega) (by omega) (by omega) fun σ3 b3 p3 c3 hF3 hb3 hR3 hc3 => ?_
    rw [List.nil_append] at hR3
    rw [Nat.zero_add] at hc3 ⊢
    have hF13 : Frm σ1 σ3 NoB := hF2.fresh hF3 fun i hi h => by have := h.2; omega
    have hRS3 := hRS1.frm hF13 (fun h => h) (fun _ h => h) fun _ _ _ _ h => h
    have eS3 : (ld1 (aadd (PA S) 1)) σ3 = some (.slice pp (done ++ f :: gs).length nn, σ3) := hRS3.st.ldF rfl
    rw [wp_get, wp_grd]
    refine ⟨chks_one eS3, ?_⟩
    have hb3' : p3 ≠ none → σ1.n ≤ b3 := fun hp => by
      rcases hb3 with h | ⟨_, h⟩ | h
      · exact absurd h hp
      · omega
      · omega
    have ei1 : ((ints .u64 rs).drop d).take f.sl.length = ints .u64 ((rs.drop d).take f.sl.length) := by simp [ints, List.map_drop, List.map_take]
    rw [ei1] at hR3
    have hl1 : ((rs.drop d).take f.sl.length).length = f.sl.length := by rw [List.length_take, List.length_drop]; omega
    obtain ⟨f1, hf1⟩ : ∃ f1 : Rf, f1 = { f with sl := (rs.drop d).take f.sl.length, sb := b3, sp := p3, sc := c3, sk := c3 } := ⟨_, rfl⟩
    have hc1 : rcells f1 = (rcells f).set 2 (.slice p3 f.sl.length c3) := by subst hf1; simp only [rcells, hl1, List.set]
    refine wp_frW' (gs := gs) (f' := f1) hRS3.row (by decide) rfl hc1 fun σ4 hF4 hn4 hE4 => ?_
    have hF14 : Frm σ1 σ4 (· = c) := hF13.no.trans hF4 (fun _ _ h => h) fun _ _ h => h
    have hokf := hRS1.ok f (by simp)
    have houtf := hRS1.out f (by simp)
    have hclt1 : c < σ1.n := by omega
    have hRS4 : RS σ4 S room c pp nn kk (done ++ f1 :: gs) := by
      refine hRS1.upd ?_ hE4 (fun g hg => (hRS1.ok g (by rcases hg with hg | hg <;> simp [hg])).frm hF14 fun i hi e => (hRS1.out g (by rcases hg with hg | hg <;> simp [hg]) i hi).2 e) ⟨?_, ?_, ?_⟩ (fun i hi => .inr ?_) (fun i hi => .inl ?_) fun i hi hj => ?_
      · have := hF14.st hst1 fun e => hcS e.symm
        simpa using this
      · subst hf1
        exact SlE.frm (esz := 1) hR3 hF4 fun hp e => by
          have e' : b3 = c := e
          have := hb3' hp
          omega
      · subst hf1
        exact hokf.a.frm hF14 fun hp e => (houtf _ (.inr ⟨hp, rfl⟩)).2 e
      · subst hf1
        exact hokf.c
      · subst hf1
        rw [hi.2]
        exact hb3' hi.1
      · subst hf1
        exact hi
      · subst hf1
        have := hb3' hi.1
        have e1 := hi.2
        have := hokf.lt (.inr hj)
        simp only at e1
        omega
    -- the words that were added
    have hst4 := hRS4.st
    rw [wp_ldF hst4 rfl, asSlice_slice, wp_act, bdSl_eq]
    simp only [asSlice_slice]
    have hF5 := Frm.new σ4 [] 1 NoB
    have hN5 := Row.new σ4 1 [] 0 (by decide) rfl (by intro x hx; cases hx)
    have hn5 := newBlk_n σ4 [] 1
    generalize σ4.newBlk [] 1 = σ5 at hF5 hN5 hn5 ⊢
    have hRS5 := hRS4.frm hF5 (fun h => h) (fun _ h => h) fun _ _ _ _ h => h
    have eS5 : (ld1 (aadd (PA S) 1)) σ5 = some (.slice pp (done ++ f1 :: gs).length nn, σ5) := hRS5.st.ldF rfl
    rw [wp_get, wp_grd]
    refine ⟨chks_one eS5, ?_⟩
    rw [wp_grd]
    refine ⟨by simp [hs.cut]; omega, ?_⟩
    rw [Nat.add_sub_cancel_left]
    have hsl2 : (((ints .u64 rs).drop (d + f.sl.length)).take f.ad.length).length = f.ad.length := by rw [List.length_take, List.length_drop, ints_len]; omega
    have hone2 : ∀ y ∈ ((ints .u64 rs).drop (d + f.sl.length)).take f.ad.length, one y = true := fun y hy => ints_one _ _ y (List.mem_of_mem_drop (List.mem_of_mem_take hy))
    have hold5 : σ5.old = σ.old := hF5.old.trans (hF14.old.trans hold)
    refine wp_apE (xs := []) (.inr ⟨0, 1, rfl, hN5⟩) (by decide) (by decide) rfl (Nat.zero_le _) (hs.fst σ5 hold5 (d + f.sl.length) f.ad.length _ (by omega)) hone2 (by rw [hsl2]; omega) (by omega) (by omega) fun σ6 b6 p6 c6 hF6 hb6 hR6 hc6 => ?_
    rw [List.nil_append] at hR6
    rw [Nat.zero_add] at hc6 ⊢
    have hF46 : Frm σ4 σ6 NoB := hF5.fresh hF6 fun i hi h => by have := h.2; omega
    have hRS6 := hRS4.frm hF46 (fun h => h) (fun _ h => h) fun _ _ _ _ h => h
    have eS6 : (ld1 (aadd (PA S) 1)) σ6 = some (.slice pp (done ++ f1 :: gs).length nn, σ6) := hRS6.st.ldF rfl
    rw [wp_get, wp_grd]
    refine ⟨chks_one eS6, ?_⟩
    have hb6' : p6 ≠ none → σ4.n ≤ b6 := fun hp => by
      rcases hb6 with h | ⟨_, h⟩ | h
      · exact absurd h hp
      · omega
      · omega
    have ei2 : ((ints .u64 rs).drop (d + f.sl.length)).take f.ad.length = ints .u64 ((rs.drop (d + f.sl.length)).take f.ad.length) := by simp [ints, List.map_drop, List.map_take]
    rw [ei2] at hR6
    have hl2 : ((rs.drop (d + f.sl.length)).take f.ad.length).length = f.ad.length := by rw [List.length_take, List.length_drop]; omega
    obtain ⟨f2, hf2⟩ : ∃ f2 : Rf, f2 = { f1 with ad := (rs.drop (d + f.sl.length)).take f.ad.length, ab := b6, ap := p6, ac := c6, ak := c6 } := ⟨_, rfl⟩
    have hc2 : rcells f2 = (rcells f1).set 3 (.slice p6 f.ad.length c6) := by subst hf2; simp only [rcells, hl2, List.set]
    refine wp_frW' (gs := gs) (f' := f2) hRS6.row (by decide) rfl hc2 fun σ7 hF7 hn7 hE7 => ?_
    rw [wp_ret]
    simp only [T32k0, sw_same, asCons_cons, asInt_int, asNil_nil]
    rw [wp_ret, ← hjd, ej]
    have hF47 : Frm σ4 σ7 (· = c) := hF46.no.trans hF7 (fun _ _ h => h) fun _ _ h => h
    have hokf1 := hRS4.ok f1 (by simp)
    have houtf1 := hRS4.out f1 (by simp)
    have hn14 := hF14.n
    have hRS7 : RS σ7 S room c pp nn kk (done ++ f2 :: gs) := by
      refine hRS4.upd ?_ hE7 (fun g hg => (hRS4.ok g (by rcases hg with hg | hg <;> simp [hg])).frm hF47 fun i hi e => (hRS4.out g (by rcases hg with hg | hg <;> simp [hg]) i hi).2 e) ⟨?_, ?_, ?_⟩ (fun i hi => .inl ?_) (fun i hi => .inr ?_) fun i hi hj => ?_
      · have := hF47.st hst4 fun e => hcS e.symm
        simpa using this
      · subst hf2
        exact hokf1.s.frm hF47 fun hp e => (houtf1 _ (.inl ⟨hp, rfl⟩)).2 e
      · subst hf2
        exact SlE.frm (esz := 1) hR6 hF7 fun hp e => by
          have e' : b6 = c := e
          have := hb6' hp
          omega
      · subst hf2
        simp only [hl2]
        exact hc6
      · subst hf2
        exact hi
      · subst hf2
        rw [hi.2]
        exact hb6' hi.1
      · subst hf2
        have := hb6' hj.1
        have e1 := hj.2
        have := hokf1.lt (.inl hi)
        simp only at e1
        omega
    have efd : flat ((done ++ [f2]).map rvw) = flat (done.map rvw) ++ (f2.sl ++ f2.ad) := by simp [flat, rvw]
    have es2 : f2.sl = (rs.drop d).take f.sl.length := by subst hf2; subst hf1; rfl
    have ea2' : f2.ad = (rs.drop (d + f.sl.length)).take f.ad.length := by subst hf2; rfl
    have efl2 : (flat ((done ++ [f2]).map rvw)).length = d + f.sl.length + f.ad.length := by
      rw [efd, List.length_append, List.length_append, hd, es2, ea2', hl1, hl2]
      omega
    refine ⟨done ++ [f2], by rw [efl2], by simp [hdl], hF1.trans (hF14.trans hF47 (fun _ _ h => h) fun _ _ h => h) (fun _ _ h => h) fun i _ e => ⟨hne, e⟩, by rw [List.append_assoc]; exact hRS7, fun g hg i hi => ?_, ?_, ?_, ?_⟩
    · rcases List.mem_append.1 hg with hg | hg
      · exact hdu g hg i hi
      · simp only [List.mem_cons, List.mem_nil_iff, or_false] at hg
        subst hg
        subst hf2
        subst hf1
        rcases hi with hi | hi
        · have := hb3' hi.1
          have := hi.2
          simp only at this
          omega
        · have := hb6' hi.1
          have := hi.2
          simp only at this
          omega
    · rw [efl2, efd, hfd, es2, ea2', List.take_add, List.take_add, List.append_assoc]
    · rw [efl2]
      omega
    · have lb : f2.back = f.back := by subst hf2; subst hf1; rfl
      have lc : f2.call = f.call := by subst hf2; subst hf1; rfl
      rw [hshj, ← hshp, List.map_append]
      simp only [List.map_cons, List.map_nil, shp, rvw, lb, lc, es2, ea2', hl1, hl2]
  · rintro st σ1 ⟨done, rfl, hdl, hF1, hRS1, hdu, hfd, hfr, hshp⟩
    simp only [List.drop_length, List.map_nil, List.append_nil] at hRS1 hfr
    simp only [T32b0, asCons_cons, asInt_int, asNil_nil]
    rw [wp_fld hRS1.st rfl, asSlice_slice, wp_bif, if_neg (by simp; omega), wp_ret]
    simp only [T32k1, sw_same, asCons_cons, asInt_int, asNil_nil]
    rw [wp_ret]
    have e0 : (flat (done.map rvw)).length = rs.length := by simpa [flat] using hfr
    have hfl2 := flat_len (done.map rvw)
    rw [List.length_map] at hfl2
    rw [List.take_length] at hshp
    have hn1 := hF1.n
    refine ⟨_, rfl, hQ σ1 (done.map rvw) (hF1.mono fun i _ e hy => ?_) ⟨fun i hi => Nat.lt_of_lt_of_le (h0 i hi) hn1, by omega, h2, c, pp, nn, kk, done, hRS1, rfl, h5, h6, fun g hg i hi hy => by have := hdu g hg i hi; have := h0 i hy; omega⟩ (by rw [hfd, e0, List.take_length]) (by rw [List.map_map, List.map_map]; exact hshp)⟩
    obtain ⟨hne, rfl⟩ := e
    refine h6 ?_ hy
    rintro rfl
    rcases h3.row with ⟨_, _, e⟩ | ⟨_, _, e, _⟩
    · have := rrow_len frs
      rw [e] at this
      cases frs with
      | nil => exact hne rfl
      | cons a l => simp at this
    · cases e
end
end Go.Pg
