/- Layer 17: the document's stack: Push. -/
import Derived.Test.YteelimkplbfiiaaRef3
namespace Go.Pg
open Go.Proofs

section
variable {σ : AHeap} {S room : Nat} {Y : Nat → Prop} {vs : List Fv}
theorem ev_pushR_neg (S : Nat) (back call n : Int) (hn : n < 0) : EvF PROG ov0 26 [PV S, .int .i64 back, .int .i64 call, .int .i64 n] σ (.int .i64 1) σ := by
  refine EvF.of (T26_eq _ _ _ _) rfl ?_
  rw [T26, wp_bif, if_pos (by simpa using hn), wp_ret]
  exact ⟨rfl, rfl⟩
theorem wp_push26 (h : RK σ S room Y vs) (back call n : Int) (hn : 0 ≤ n) {Q : Value → AHeap → Prop} (key : Wp PROG ov0 (T26k2 back call n (some ⟨S, 0, some 0⟩) .normal [.bool (decide (¬ ((tot vs : Nat) : Int) + 2 + n ≤ (room : Nat)))]) σ fun _ vs' σ' => ∃ v, vs' = [v] ∧ Q v σ') :
    WpF PROG ov0 26 [PV S, .int .i64 back, .int .i64 call, .int .i64 n] σ Q := by
  have hu := ev_used h
  obtain ⟨h0, h1, h2, c, p, nn, cap, frs, h3, rfl, h5, h6, h7⟩ := h
  have e0 : (ld1 (aadd (PA S) 0)) σ = some (.int .i64 (room : Nat), σ) := h3.st.ldF rfl
  refine WpF.of (T26_eq _ _ _ _) rfl ?_
  rw [T26, wp_bif, if_neg (by simp; omega), wp_join, wp_fld h3.st rfl, asInt_int, wp_bif]
  by_cases hb : n > (room : Int)
  · rw [if_neg (by simp; omega), wp_ret]
    rw [decide_eq_true (by omega)] at key
    exact key
  · rw [if_pos (by simp; omega)]
    simp only [asSome_some]
    rw [wp_ldF h3.st rfl, asInt_int, wp_call, WpF.eq hu, asInt_int, wp_get, wp_grd]
    refine ⟨chks_one e0, ?_⟩
    rw [wp_ret]
    have e1 : wi64 (2 + n) = 2 + n := wi64_in (by omega)
    have e2 : wi64 (((room : Nat) : Int) - ((tot (frs.map rvw) : Nat) : Int)) = ((room : Nat) : Int) - ((tot (frs.map rvw) : Nat) : Int) := wi64_in (by omega)
    rw [e1, e2]
    have e3 : decide (2 + n > ((room : Nat) : Int) - ((tot (frs.map rvw) : Nat) : Int)) = decide (¬ ((tot (frs.map rvw) : Nat) : Int) + 2 + n ≤ (room : Nat)) := by
      congr 1
      apply propext
      constructor <;> intro h <;> omega
    rw [e3]
    exact key
theorem wp_pushR_full (h : RK σ S room Y vs) (back call : Int) (n : Nat) (hn : ¬ tot vs + 2 + n ≤ room) {Q : Value → AHeap → Prop} (hQ : Q (.int .i64 9) σ) : WpF PROG ov0 26 [PV S, .int .i64 back, .int .i64 call, .int .i64 (n : Nat)] σ Q := by
  refine wp_push26 h back call n (by omega) ?_
  rw [decide_eq_true (by omega)]
  simp only [T26k2, sw_same, asCons_cons, asBool_bool, asNil_nil]
  rw [wp_bif, if_pos rfl, wp_ret]
  exact ⟨_, rfl, hQ⟩
theorem ints_rep (j : Nat) : ints .u64 (List.replicate (j + 1) 1) = ints .u64 (List.replicate j 1) ++ [.int .u64 1] := by simp [ints, List.replicate_succ']
theorem wp_pushR (h : RK σ S room Y vs) (hf : Fresh σ) (back call : Int) (n : Nat) (hn : tot vs + 2 + n ≤ room) {Q : Value → AHeap → Prop}
    (hQ : ∀ σ', Frm σ σ' (fun j => ¬ Y j) → RK σ' S room Y (vs ++ [⟨back, call, List.replicate n 1, []⟩]) → Q (.int .i64 0) σ') : WpF PROG ov0 26 [PV S, .int .i64 back, .int .i64 call, .int .i64 (n : Nat)] σ Q := by
  refine wp_push26 h back call n (by omega) ?_
  have hl := tot_len vs
  rw [decide_eq_false (by omega)]
  simp only [T26k2, sw_same, asCons_cons, asBool_bool, asNil_nil]
  rw [wp_bif, if_neg (by simp)]
  obtain ⟨h0, h1, h2, c, p, nn, cap, frs, h3, rfl, h5, h6, h7⟩ := h
  rw [List.length_map] at hl
  have hSlt := h3.st.1
  refine wp_newQ fun σ1 hF1 hn1 hS1 => ?_
  refine wp_stQ hS1 rfl rfl fun σ2 hF2 hn2 hX2 => ?_
  have hF02 : Frm σ σ2 NoB := hF1.fresh hF2 fun i hi e => by omega
  have hxlt : σ.n < σ2.n := by omega
  refine Wp.count n (fun j st σ' => Frm σ σ' NoB ∧ σ.n < σ'.n ∧ st = [.int .i64 (j : Nat)] ∧ ∃ bs ps cs, St σ' σ.n [.int .i64 back, .int .i64 call, .slice ps j cs, .slice none 0 0] ∧ SlV σ' bs ps cs (ints .u64 (List.replicate j 1)) ∧ (ps ≠ none → σ.n < bs))
    ⟨hF02, hxlt, rfl, 0, none, 0, hX2, .inl ⟨rfl, rfl, rfl⟩, fun h => absurd rfl h⟩ ?_ ?_
  · rintro j st σ3 hj ⟨hF3, hlt3, rfl, bs, ps, cs, hX3, hR3, hb3⟩
    have e1 : wi64 ((j : Int) + 1) = ((j + 1 : Nat) : Int) := by rw [wi64_in (by omega)]; omega
    simp only [T26b0, asCons_cons, asInt_int, asNil_nil]
    rw [wp_bif, if_pos (by simp; omega), wp_join, wp_ldF hX3 rfl, asSlice_slice]
    refine wp_app1 hR3 (by simp) rfl (by omega) (by omega) fun σ4 b' off s cap' hF4 hb' hR4 => ?_
    have hX4 := hF4.st hX3 fun e => by have := hb3 e.1; have := e.2; omega
    refine wp_st1Q hX4 (by simp) rfl fun σ5 hF5 hn5 hX5 => ?_
    simp only [List.set] at hX5
    rw [wp_ret]
    simp only [T26k0, sw_same, asNil_nil]
    rw [wp_ret]
    have hbn : σ.n < b' := by
      rcases hb' with ⟨hp, rfl⟩ | h
      · exact hb3 hp
      · omega
    have hF04 : Frm σ σ4 NoB := hF3.fresh hF4 fun i hi e => by have := hb3 e.1; have := e.2; omega
    refine ⟨hF04.fresh hF5 fun i hi e => by omega, by have := hF4.n; omega, by rw [e1], b', _, cap', hX5, .inr ⟨off, s, rfl, ?_⟩, fun _ => hbn⟩
    have := hF5.row hR4 (by omega)
    rw [← ints_rep] at this
    exact this
  · rintro st σ3 ⟨hF3, hlt3, rfl, bs, ps, cs, hX3, hR3, hb3⟩
    simp only [T26b0, asCons_cons, asInt_int, asNil_nil]
    rw [wp_bif, if_neg (by simp), wp_ret]
    simp only [T26k1, sw_same, asCons_cons, asInt_int, asNil_nil]
    have hf3 := hF3.fr hf
    have h33 := h3.frm hF3 (fun h => h) (fun _ h => h) fun _ _ _ _ h => h
    rw [wp_get, wp_get, wp_grd]
    refine ⟨newN_ok (Nat.le_refl _) hf3 (fun b hb => by cases hb), ?_⟩
    rw [wp_act, bdSl_eq]
    simp only [asSlice_slice]
    have hF6 := Frm.new σ3 [] 4 NoB
    have hN6 := Row.new σ3 4 [] 0 (by decide) rfl (by intro x hx; cases hx)
    have hn6 := newBlk_n σ3 [] 4
    generalize σ3.newBlk [] 4 = σ6 at hF6 hN6 hn6 ⊢
    have h36 := h33.frm hF6 (fun h => h) (fun _ h => h) fun _ _ _ _ h => h
    have hX6 := hF6.stN hX3
    rw [wp_get, wp_fld h36.st rfl, asSlice_slice, wp_ldAll hX6 4 rfl]
    simp only [asAgg_agg, asCons_cons, asInt_int, asSlice_slice, asNil_nil]
    rw [wp_get, wp_grd]
    refine ⟨newN_ok (by omega) (hF6.fr hf3) (fun b hb => by simp at hb; omega), ?_⟩
    rw [wp_act, bdSl_eq]
    simp only [asSlice_slice]
    have hone : ∀ y ∈ [Value.int .i64 back, .int .i64 call, .slice ps n cs, .slice none 0 0], one y = true := by
      intro y hy
      simp only [List.mem_cons, List.mem_nil_iff, or_false] at hy
      rcases hy with rfl | rfl | rfl | rfl <;> rfl
    have hF7 := Frm.new σ6 [Value.int .i64 back, .int .i64 call, .slice ps n cs, .slice none 0 0] 4 NoB
    have hN7 := Row.new σ6 4 [Value.int .i64 back, .int .i64 call, .slice ps n cs, .slice none 0 0] 1 (by decide) rfl hone
    have hn7 := newBlk_n σ6 [Value.int .i64 back, .int .i64 call, .slice ps n cs, .slice none 0 0] 4
    generalize σ6.newBlk [Value.int .i64 back, .int .i64 call, .slice ps n cs, .slice none 0 0] 4 = σ7 at hF7 hN7 hn7 ⊢
    have h37 := h36.frm hF7 (fun h => h) (fun _ h => h) fun _ _ _ _ h => h
    have hM7 := hF7.rowN hN6
    have hX7 := hF7.stN hX6
    have hrl := rrow_len frs
    have hro : ∀ y ∈ rrow frs, one y = true := by
      intro y hy
      unfold rrow at hy
      obtain ⟨g, _, hg⟩ := List.mem_flatMap.1 hy
      simp only [rcells, List.mem_cons, List.mem_nil_iff, or_false] at hg
      rcases hg with rfl | rfl | rfl | rfl <;> rfl
    rw [wp_get]
    refine wp_apE (xs := []) (.inr ⟨0, 4, rfl, hM7⟩) (by decide) (by decide) rfl (Nat.zero_le _) (h37.row.fst hrl) hro hrl (by omega) (by omega) fun σ8 b8 p8 c8 hF8 hb8 hR8 hc8 => ?_
    rw [List.nil_append] at hR8
    rw [Nat.zero_add] at hc8 ⊢
    have hF38 : Frm σ3 σ8 NoB := (hF6.seq hF7).fresh hF8 fun i hi h => by have := h.2; omega
    have hX8 := hF38.stN hX3
    have hN8 : Row σ8 σ6.n 0 4 1 4 [Value.int .i64 back, .int .i64 call, .slice ps n cs, .slice none 0 0] := hF8.row hN7 fun h => by have := h.2; omega
    have hL8 : (ldN 4 ⟨σ.n, 0, some 0⟩) σ8 = some (.agg [Value.int .i64 back, .int .i64 call, .slice ps n cs, .slice none 0 0].toArray, σ8) := hX8.ldAll 4 rfl
    rw [wp_get, wp_grd]
    refine ⟨chks_one hL8, ?_⟩
    rw [wp_get, wp_grd]
    refine ⟨chkO_one (hF8.get _ (by omega) fun h => by have := h.2; omega), ?_⟩
    have hp8 : p8 ≠ none → σ3.n ≤ b8 ∧ b8 ≠ σ6.n := fun hp => by
      rcases hb8 with h | ⟨_, h⟩ | h
      · exact absurd h hp
      · omega
      · omega
    have hN8e : SlE σ8 σ6.n (some ⟨σ6.n, 0, some 4⟩) 1 4 [Value.int .i64 back, .int .i64 call, .slice ps n cs, .slice none 0 0] := .inr ⟨0, 4, rfl, hN8⟩
    refine wp_apE hR8 (by decide) (by decide) hrl hc8 (hN8e.fst (n := 1) rfl) hone rfl (by omega) (by omega) fun σ9 b9 p9 c9 hF9 hb9 hR9 hc9 => ?_
    have hF39 : Frm σ3 σ9 NoB := hF38.fresh hF9 fun i hi h => by
      have := hp8 h.1
      have := h.2
      omega
    have hF09 : Frm σ σ9 NoB := hF3.seq hF39
    have h39 := h3.frm hF09 (fun h => h) (fun _ h => h) fun _ _ _ _ h => h
    have hp9 : p9 ≠ none := by
      rintro rfl
      rcases hR9 with ⟨_, _, e⟩ | ⟨_, _, e, _⟩
      · simp at e
      · cases e
    have h89 : σ3.n ≤ b9 := by
      have := hF8.n
      rcases hb9 with h | ⟨hp8', h⟩ | h
      · exact absurd h hp9
      · have := hp8 hp8'
        omega
      · omega
    simp only [asSome_some]
    refine wp_st1Q h39.st (by simp) rfl fun σ10 hF10 hn10 hS10 => ?_
    simp only [List.set] at hS10
    rw [wp_ret]
    have hF010 : Frm σ σ10 (· = S) := hF09.no.trans hF10 (fun _ _ h => h) fun _ _ h => h
    have hF310 : Frm σ3 σ10 (· = S) := hF39.no.trans hF10 (fun _ _ h => h) fun _ _ h => h
    have hbslt : ps ≠ none → bs < σ3.n := fun hp => SlE.lt (esz := 1) hR3 hp
    have hn3 := hF3.n
    have hn310 := hF310.n
    refine ⟨_, rfl, hQ σ10 (hF010.any fun j e hy => by subst e; exact h5 hy) ⟨fun j hj => by have := h0 j hj; omega, ?_, h2, b9, p9, c9, c9, frs ++ [⟨back, call, List.replicate n 1, [], bs, ps, cs, cs, 0, none, 0, 0⟩], ?_, by simp [rvw], h5, fun _ hy => by have := h0 _ hy; omega, ?_⟩⟩
    · rw [tot_snoc]
      simp only [fsz, List.length_replicate, List.length_nil]
      omega
    · refine { st := by simpa using hS10, row := ?_, ln := by simpa using hc9, cS := fun _ => by omega, ok := fun g hg => ?_, out := fun g hg i hi => ?_, sep := ?_, own := fun g hg i hi => ?_ }
      · have er : rrow (frs ++ [⟨back, call, List.replicate n 1, [], bs, ps, cs, cs, 0, none, 0, 0⟩]) = rrow frs ++ [Value.int .i64 back, .int .i64 call, .slice ps n cs, .slice none 0 0] := by
          rw [rrow_append]
          simp [rrow, rcells]
        rw [er]
        exact hR9.frm hF10 fun _ e => by
          have e' : b9 = S := e
          omega
      · rcases List.mem_append.1 hg with hg | hg
        · exact (h3.ok g hg).frm hF010 fun j hj e => (h3.out g hg j hj).1 e
        · simp only [List.mem_cons, List.mem_nil_iff, or_false] at hg
          subst hg
          exact ⟨SlE.frm (esz := 1) hR3 hF310 fun hp e => by
            have e' : bs = S := e
            have := hb3 hp
            omega, .inl ⟨rfl, rfl, rfl⟩, Nat.le_refl _⟩
      · rcases List.mem_append.1 hg with hg | hg
        · have := (h3.ok g hg).lt hi
          exact ⟨(h3.out g hg i hi).1, by omega⟩
        · simp only [List.mem_cons, List.mem_nil_iff, or_false] at hg
          subst hg
          rcases hi with ⟨hp, rfl⟩ | ⟨hp, _⟩
          · have := hb3 hp
            have := hbslt hp
            exact ⟨by omega, by omega⟩
          · exact absurd rfl hp
      · rw [List.pairwise_append]
        refine ⟨h3.sep, List.pairwise_singleton _ _, fun a ha b hb => ?_⟩
        simp only [List.mem_cons, List.mem_nil_iff, or_false] at hb
        subst hb
        refine ⟨fun i hi hj => ?_, fun i hi hj => ?_⟩
        · have := (h3.ok a ha).lt (.inl hi)
          rcases hj with ⟨hp, rfl⟩ | ⟨hp, _⟩
          · have := hb3 hp
            simp only at *
            omega
          · exact absurd rfl hp
        · have := (h3.ok a ha).lt hj
          obtain ⟨hp, rfl⟩ := hi
          have := hb3 hp
          simp only at *
          omega
      · rcases List.mem_append.1 hg with hg | hg
        · exact h3.own g hg i hi
        · simp only [List.mem_cons, List.mem_nil_iff, or_false] at hg
          subst hg
          rintro ⟨hp, _⟩
          exact absurd rfl hp
    · intro g hg j hj hy
      rcases List.mem_append.1 hg with hg | hg
      · exact h7 g hg j hj hy
      · simp only [List.mem_cons, List.mem_nil_iff, or_false] at hg
        subst hg
        have := h0 j hy
        rcases hj with ⟨hp, rfl⟩ | ⟨hp, _⟩
        · have := hb3 hp
          simp only at *
          omega
        · exact absurd rfl hp
end
end Go.Pg
