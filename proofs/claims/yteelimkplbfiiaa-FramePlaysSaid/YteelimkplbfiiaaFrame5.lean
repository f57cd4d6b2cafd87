/- Layer 17: Renew. -/
import Derived.Test.YteelimkplbfiiaaFrame4
namespace Go.Pg
open Go.Proofs

theorem FS.upd {σ σ' : AHeap} {S c room : Nat} {ls bs : List Fr} {f f' : Fr} (h : FS σ S c room (ls ++ f :: bs)) (k : Frm σ σ' (own f)) (hb : f'.b = f.b) (hs : f'.sb = f.sb) (ha : f'.ab = f.ab) (hz : fsize f' = fsize f) (hf : FrOK σ' f') : FS σ' S c room (ls ++ f' :: bs) := by
  have hof := h.out f (by simp)
  have hown : ∀ i, own f' i ↔ own f i := by intro i; unfold own; rw [hb, hs, ha]
  obtain ⟨p, cap, h1, h2, h3⟩ := h.blk
  have ht : total (ls ++ f' :: bs) = total (ls ++ f :: bs) := by rw [total_append, total_append, total, total, hz]
  have hsep := List.pairwise_append.1 h.sep
  have hsep2 := List.pairwise_cons.1 hsep.2.1
  have hmem : ∀ g, g ∈ ls ++ f' :: bs → g = f' ∨ g ∈ ls ∨ g ∈ bs := by
    intro g hg
    simp at hg
    rcases hg with hg | hg | hg
    · exact .inr (.inl hg)
    · exact .inl hg
    · exact .inr (.inr hg)
  have hdis : ∀ g, (g ∈ ls ∨ g ∈ bs) → ∀ i, own g i → ¬ own f i := by
    intro g hg i h1 h2
    rcases hg with hg | hg
    · exact hsep.2.2 g hg f (by simp) i h1 h2
    · exact hsep2.1 g hg i h2 h1
  refine ⟨h.rm, by rw [ht]; exact h.fit, ⟨p, cap, ?_, ?_, h3⟩, fun g hg => ?_, fun g hg i hi => ?_, ?_⟩
  · rw [ht]
    have := k.st h1 fun ho => (hof S ho).2.1 rfl
    simpa using this
  · have := h2.frm k fun _ ho => (hof c ho).2.2 rfl
    simpa [hb] using this
  · rcases hmem g hg with rfl | hg
    · exact hf
    · exact (h.ok g (by rcases hg with hg | hg <;> simp [hg])).frm k (hdis g hg)
  · have hn := k.n
    rcases hmem g hg with rfl | hg
    · have := hof i ((hown i).1 hi)
      exact ⟨by omega, this.2⟩
    · have := h.out g (by rcases hg with hg | hg <;> simp [hg]) i hi
      exact ⟨by omega, this.2⟩
  · refine List.pairwise_append.2 ⟨hsep.1, List.pairwise_cons.2 ⟨fun g hg i hi => hsep2.1 g hg i ((hown i).1 hi), hsep2.2⟩, fun g hg g' hg' i hi => ?_⟩
    rcases List.mem_cons.1 hg' with rfl | hg'
    · intro h2
      exact hsep.2.2 g hg f (by simp) i hi ((hown i).1 h2)
    · exact hsep.2.2 g hg g' (by simp [hg']) i hi

section
variable {σ : AHeap} {S room : Nat} {Y : Nat → Prop} {vs : List Fv} {v : Fv}

theorem ev_renew_no (h : Stk σ S room Y vs) {p : Option Addr} {n cap : Nat} (hn : n ≠ (flat vs).length) : EvF PROG ov0 18 [PV S, .slice p n cap] σ (.int .i64 1) σ := by
  have hfit := h.fit
  have hfl := flat_len vs
  obtain ⟨h0, c, frs, h1, rfl, hY⟩ := h
  obtain ⟨q, qcap, h4, h5, h6⟩ := h1.blk
  rw [tot_vw] at hfl hfit
  simp only [List.length_map] at hfl hfit
  have e1 : wi64 (((total frs : Nat) : Int) - wi64 (2 * ((frs.length : Nat) : Int))) = (((flat (frs.map vw)).length : Nat) : Int) := by
    rw [wi64_in (n := 2 * ((frs.length : Nat) : Int)) (by omega), wi64_in (by omega)]; omega
  refine EvF.of (T18_eq _ _ _ _) rfl ?_
  rw [T18]
  simp only [asSome_some]
  rw [wp_ldF h4 rfl, asInt_int, wp_ldF h4 rfl, asSlice_slice, e1, wp_bif, if_pos (by simp; omega), wp_ret]
  exact ⟨rfl, rfl⟩

/-- What a renewal keeps. -/
def shp (v : Fv) : Int × Int × Nat × Nat := (v.back, v.call, v.sl.length, v.ad.length)
theorem wp_renewS (h : Stk σ S room Y vs) {R cap : Nat} {p : Option Addr} {rs : List Int} (hr : SlV σ R p cap (ints .u64 rs)) (hRY : p ≠ none → Y R) (hn : rs.length = (flat vs).length) {Q : Value → AHeap → Prop}
    (hQ : ∀ σ' vs', Frm σ σ' (fun j => ¬ Y j) → Stk σ' S room Y vs' → flat vs' = rs → vs'.length = vs.length → vs'.map shp = vs.map shp → Q (.int .i64 0) σ') : WpF PROG ov0 18 [PV S, .slice p rs.length cap] σ Q := by
  have hfit := h.fit
  have hfl := flat_len vs
  obtain ⟨h0, c, frs, h1, rfl, hY⟩ := h
  obtain ⟨q, qcap, h4, h5, h6⟩ := h1.blk
  rw [tot_vw] at hfl hfit
  simp only [List.length_map] at hfl hfit
  have e1 : wi64 (((total frs : Nat) : Int) - wi64 (2 * ((frs.length : Nat) : Int))) = (((flat (frs.map vw)).length : Nat) : Int) := by
    rw [wi64_in (n := 2 * ((frs.length : Nat) : Int)) (by omega), wi64_in (by omega)]; omega
  refine WpF.of (T18_eq _ _ _ _) rfl ?_
  rw [T18]
  simp only [asSome_some]
  rw [wp_ldF h4 rfl, asInt_int, wp_ldF h4 rfl, asSlice_slice, e1, wp_bif, if_neg (by simp; omega), wp_ldF h4 rfl, asSlice_slice]
  refine Wp.count frs.length (fun j st σ' => ∃ done q' c', st = [.int .i64 ((j : Nat) : Int), .slice q' (rs.length - (flat (done.map vw)).length) c'] ∧ done.length = j ∧ (q' ≠ none → Y R) ∧ Frm σ σ' (fun i => ∃ g ∈ frs, own g i) ∧ FS σ' S c room (done ++ frs.drop j) ∧ (∀ f ∈ done, ∃ g ∈ frs, ∀ i, own f i → own g i)
      ∧ flat (done.map vw) = rs.take (flat (done.map vw)).length ∧ (flat (done.map vw)).length + (flat ((frs.drop j).map vw)).length = rs.length ∧ SlV σ' R q' c' (ints .u64 (rs.drop (flat (done.map vw)).length)) ∧ done.map (fun f => shp (vw f)) = (frs.take j).map fun f => shp (vw f))
    ⟨[], p, cap, by simp [flat], rfl, hRY, Frm.refl _ _, by simpa using h1, (fun f hf => by cases hf), by simp [flat], by simp [flat, hn], by simpa [flat] using hr, rfl⟩ ?_ ?_
  · rintro j st σ1 hj ⟨done, q', c', rfl, hdl, hq'Y, hF1, hFS1, hdo, hfd, hfr, hsl, hshp⟩
    rw [List.drop_eq_getElem_cons hj] at hFS1 hfr
    have hmem : frs[j] ∈ frs := List.getElem_mem hj
    have hpb : (frs.map fun f => PV f.b)[j]? = some (PV frs[j].b) := by simp [hj]
    have hshj := take_succ_map (fun f => shp (vw f)) frs j hj
    generalize frs[j] = f at hFS1 hfr hmem hpb hshj
    have efl : (flat ((f :: frs.drop (j + 1)).map vw)).length = f.sl.length + f.ad.length + (flat ((frs.drop (j + 1)).map vw)).length := by
      unfold flat
      rw [List.map_cons, List.flatMap_cons, List.length_append]
      simp only [vw, List.length_append]
    rw [efl] at hfr
    generalize hd : (flat (done.map vw)).length = d at hfd hfr hsl
    obtain ⟨b4, bcap, k4, k5, k6⟩ := hFS1.blk
    obtain ⟨g1, soff, ss, scap, ap, acap, g2, g3, g4, g5⟩ := hFS1.ok f (by simp)
    have ho := hFS1.out f (by simp)
    have hob := ho f.b (.inl rfl)
    have hos := ho f.sb (.inr (.inl rfl))
    have hoa := ho f.ab (.inr (.inr rfl))
    have hYf : ∀ i, own f i → ¬ Y i := fun i hi hy => (hY i hy).2.2 f hmem hi
    have hRs : q' ≠ none → R ≠ f.b ∧ R ≠ f.sb ∧ R ≠ f.ab := fun hq => ⟨fun e => hYf R (.inl e) (hq'Y hq), fun e => hYf R (.inr (.inl e)) (hq'Y hq), fun e => hYf R (.inr (.inr e)) (hq'Y hq)⟩
    rcases h5 with ⟨_, _, h5⟩ | ⟨off, s, rfl, h5⟩
    · simp at h5; subst h5; simp at hj
    have h5a : Row σ1 c off s qcap 1 (frs.map fun f => PV f.b) := hF1.row h5 fun ⟨g, hg, ho⟩ => (h1.out g hg c ho).2.2 rfl
    have ej : wi64 ((j : Int) + 1) = ((j + 1 : Nat) : Int) := by rw [wi64_in (by omega)]; omega
    have hlr : (ints .u64 (rs.drop d)).length = rs.length - d := by simp
    simp only [T18b0, asCons_cons, asInt_int, asSlice_slice, asNil_nil, asSome_some]
    rw [wp_bif, if_pos (by simp; omega), wp_join, wp_grd]
    refine ⟨by simp; omega, ?_⟩
    rw [Int.toNat_natCast, wp_rowR h5a hpb, asPtr_ptr]
    simp only [asSome_some]
    rw [wp_ldF g2 rfl, asSlice_slice]
    have hsl0 : SlV σ1 f.sb (some ⟨f.sb, soff, some ss⟩) scap (ints .u64 f.sl) := .inr ⟨soff, ss, rfl, g3⟩
    refine wp_cpyR hsl0 (by simp) hsl (by simp) (by simp; omega) fun σ2 hF2 hR2 => ?_
    have hF2' : Frm σ1 σ2 (own f) := hF2.mono fun i _ hi => .inr (.inl hi.2)
    have hsl2 := hsl.frm hF2 fun hq he => (hRs hq).2.1 he.2
    have hc1 := hsl.cap
    have hm1 := hsl2.mayCut
    simp only [ints_len, List.length_drop] at hc1
    simp only [ints_len, Int.toNat_natCast]
    rw [wp_grd]
    refine ⟨by simp [hm1]; omega, ?_⟩
    have g2a := hF2.st g2 fun h => g1 h.2
    rw [wp_ldF g2a rfl, asSlice_slice]
    have hsl3 := hsl2.drop f.sl.length (by simp; omega)
    have ed : (ints .u64 (rs.drop d)).drop f.sl.length = ints .u64 (rs.drop (d + f.sl.length)) := by simp [ints, List.drop_drop]
    rw [ed] at hsl3
    have hab : ∀ (_ : ap ≠ none), f.ab ≠ f.b ∧ f.ab ≠ f.sb := g5
    refine wp_cpyR (g4.frm hF2 fun hp he => (g5 hp).2 he.2) (by simp) hsl3 (by simp; omega) (by simp; omega) fun σ3 hF3 hR3 => ?_
    have hsl4 := hsl3.frm hF3 fun hq he => by
      have : q' ≠ none := by intro e; subst e; exact hq rfl
      exact (hRs this).2.2 he.2
    have hm2 := hsl4.mayCut
    simp only [ints_len, Int.toNat_natCast]
    rw [wp_grd]
    refine ⟨by simp only [Nat.mul_one] at hm2 ⊢; simp [hm2]; omega, ?_⟩
    rw [wp_ret]
    simp only [T18k0, sw_same, asCons_cons, asSlice_slice, asNil_nil]
    rw [wp_ret, ej]
    have hsl5 := hsl4.drop f.ad.length (by simp; omega)
    have ed2 : (ints .u64 (rs.drop (d + f.sl.length))).drop f.ad.length = ints .u64 (rs.drop (d + f.sl.length + f.ad.length)) := by simp [ints, List.drop_drop]
    rw [ed2] at hsl5
    obtain ⟨f', hf'⟩ : ∃ f' : Fr, f' = ⟨f.b, f.sb, f.ab, f.back, f.call, (rs.drop d).take f.sl.length, (rs.drop (d + f.sl.length)).take f.ad.length⟩ := ⟨_, rfl⟩
    have l1 : f'.sl.length = f.sl.length := by subst hf'; simp; omega
    have l2 : f'.ad.length = f.ad.length := by subst hf'; simp; omega
    have hF13 : Frm σ1 σ3 (own f) := hF2.trans hF3 (fun _ _ h => .inr (.inl h.2)) (fun _ _ h => .inr (.inr h.2))
    have hok : FrOK σ3 f' := by
      have e1 : ints .u64 f'.sl = (ints .u64 (rs.drop d)).take (ints .u64 f.sl).length := by subst hf'; simp [ints, List.map_take]
      have e2 : ints .u64 f'.ad = (ints .u64 (rs.drop (d + f.sl.length))).take (ints .u64 f.ad).length := by subst hf'; simp [ints, List.map_take]
      have hb3 := hF3.st g2a fun h => (g5 h.1).1 h.2.symm
      refine ⟨by subst hf'; exact g1, soff, ss, scap, ap, acap, ?_, ?_, ?_, by subst hf'; exact g5⟩
      · rw [l1, l2]
        subst hf'
        exact hb3
      · rw [e1]
        rcases hR2 with ⟨h, _⟩ | ⟨o1, s1, e, hR2⟩
        · cases h
        · cases e
          have := hF3.row hR2 fun h => (g5 h.1).2 h.2.symm
          subst hf'
          exact this
      · rw [e2]
        subst hf'
        exact hR3
    have hFS3 := hFS1.upd hF13 (f' := f') (by subst hf'; rfl) (by subst hf'; rfl) (by subst hf'; rfl) (by unfold fsize; rw [l1, l2]) hok
    have efd : flat ((done ++ [f']).map vw) = flat (done.map vw) ++ (f'.sl ++ f'.ad) := by simp [flat, vw]
    have efl2 : (flat ((done ++ [f']).map vw)).length = d + f.sl.length + f.ad.length := by
      rw [efd, List.length_append, List.length_append, hd, l1, l2]
      omega
    refine ⟨done ++ [f'], cutS (cutS q' (f.sl.length * 1)) (f.ad.length * 1), c' - f.sl.length - f.ad.length, by rw [efl2, show rs.length - (d + f.sl.length + f.ad.length) = rs.length - d - f.sl.length - f.ad.length by omega], by simp [hdl], fun h => hq'Y fun e => h (by rw [e]; rfl), hF1.trans hF13 (fun _ _ h => h) (fun i _ h => ⟨f, hmem, h⟩), ?_, ?_, ?_, ?_, ?_, ?_⟩
    · rw [List.append_assoc]
      exact hFS3
    · intro g hg
      rcases List.mem_append.1 hg with hg | hg
      · exact hdo g hg
      · simp at hg
        subst hg
        subst hf'
        exact ⟨f, hmem, fun i hi => hi⟩
    · rw [efl2, efd, hfd]
      subst hf'
      simp only
      rw [List.take_add, List.take_add, List.append_assoc]
    · rw [efl2]
      omega
    · rw [efl2]
      exact hsl5
    · have lb : f'.back = f.back := by subst hf'; rfl
      have lc : f'.call = f.call := by subst hf'; rfl
      rw [hshj, ← hshp, List.map_append]
      simp [shp, vw, l1, l2, lb, lc]
  · rintro st σ1 ⟨done, q', c', rfl, hdl, hq'Y, hF1, hFS1, hdo, hfd, hfr, hsl, hshp⟩
    simp only [List.drop_length, List.map_nil, List.append_nil] at hFS1 hfr
    simp only [T18b0, asCons_cons, asInt_int, asSlice_slice, asNil_nil]
    rw [wp_bif, if_neg (by simp), wp_ret]
    simp only [T18k1, sw_same, asCons_cons, asInt_int, asSlice_slice, asNil_nil]
    rw [wp_ret]
    have e0 : (flat (done.map vw)).length = rs.length := by simpa [flat] using hfr
    refine ⟨_, rfl, hQ σ1 (done.map vw) (hF1.mono fun i _ ⟨g, hg, ho⟩ hy => (hY i hy).2.2 g hg ho) ⟨fun i hi => Nat.lt_of_lt_of_le (h0 i hi) hF1.n, c, done, hFS1, rfl, fun i hi => ⟨(hY i hi).1, (hY i hi).2.1, fun f hf ho => ?_⟩⟩ ?_ (by simp [hdl]) (by rw [List.take_length] at hshp; rw [List.map_map, List.map_map]; exact hshp)⟩
    · obtain ⟨g, hg, hgo⟩ := hdo f hf
      exact (hY i hi).2.2 g hg (hgo i ho)
    · rw [hfd, e0, List.take_length]
theorem wp_renewK (h : Stk σ S room Y vs) {R cap : Nat} {p : Option Addr} {rs : List Int} (hr : SlV σ R p cap (ints .u64 rs)) (hRY : p ≠ none → Y R) (hn : rs.length = (flat vs).length) {Q : Value → AHeap → Prop}
    (hQ : ∀ σ' vs', Frm σ σ' (fun j => ¬ Y j) → Stk σ' S room Y vs' → flat vs' = rs → vs'.length = vs.length → Q (.int .i64 0) σ') : WpF PROG ov0 18 [PV S, .slice p rs.length cap] σ Q :=
  wp_renewS h hr hRY hn fun σ' vs' a b c d _ => hQ σ' vs' a b c d
end
end Go.Pg
