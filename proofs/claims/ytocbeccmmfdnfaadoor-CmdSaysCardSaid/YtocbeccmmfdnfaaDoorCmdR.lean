/- Layer 24: the document's own functions: first, Class, tail, Count, named, count, Digits, cut, kinds. -/
import Derived.Test.YtocbeccmmfdnfaaDoorCmdZ
namespace Go.Pg
open Go.Proofs Go.Utf8 Go.Lib

theorem mark_at (j : Nat) (hj : j < 13) : wi32 (byteAt (bs [40, 41, 44, 59, 61, 60, 62, 43, 45, 42, 124, 33, 58]) j) = marks.getD j 0 := by
  have : j = 0 ∨ j = 1 ∨ j = 2 ∨ j = 3 ∨ j = 4 ∨ j = 5 ∨ j = 6 ∨ j = 7 ∨ j = 8 ∨ j = 9 ∨ j = 10 ∨ j = 11 ∨ j = 12 := by omega
  rcases this with rfl | rfl | rfl | rfl | rfl | rfl | rfl | rfl | rfl | rfl | rfl | rfl | rfl <;> decide

theorem ev_class' {r : Int} (h : rOK r) (σ : AHeap) : EvF PROG ovD 30 [.int .i32 r] σ (.int .i64 (clsF r)) σ := by
  refine EvF.of (T30_eq _) rfl ?_
  rw [T30, wp_join, wp_join, wp_bif]
  by_cases h1 : r = 95 ∨ r = 39
  · have h1' : ((r == 95) || (r == 39)) = true := by simpa using h1
    have hc : clsF r = 1 := cls_1 (by rcases h1 with h1 | h1 <;> simp [h1])
    rw [if_neg (by rw [h1']; simp), hc]
    simp [wp_ret, T30k0, T30k3, sw_same, asCons_cons, asBool_bool, asInt_int, asNil_nil]
  · have h1' : ((r == 95) || (r == 39)) = false := by simpa using h1
    rw [if_pos (by rw [h1']; rfl), wp_call, WpF.eq (ev_letter h σ)]
    simp only [asBool_bool, wp_ret, T30k0, sw_same, asCons_cons, asNil_nil, wp_bif]
    by_cases h2 : isLetterU r = true
    · rw [if_pos h2, cls_1 (.inr (.inr h2))]
      simp [wp_ret, T30k3, sw_same, asCons_cons, asInt_int, asNil_nil]
    · have n1 : ¬ (r = 95 ∨ r = 39 ∨ isLetterU r = true) := fun h => h.elim (fun h => h1 (.inl h)) fun h => h.elim (fun h => h1 (.inr h)) h2
      rw [if_neg h2]
      by_cases h3 : 48 ≤ r ∧ r ≤ 57
      · rw [if_pos (by simpa using h3), cls_2 n1 h3]
        simp [wp_ret, T30k3, sw_same, asCons_cons, asInt_int, asNil_nil]
      · rw [if_neg (by simpa using h3)]
        by_cases h4 : r = 32 ∨ r = 9 ∨ r = 10 ∨ r = 13
        · rw [cls_3 n1 h3 h4, if_pos (by rcases h4 with h4 | h4 | h4 | h4 <;> simp [h4])]
          simp [wp_ret, T30k3, sw_same, asCons_cons, asInt_int, asNil_nil]
        · rw [if_neg (by simpa [not_or, and_assoc] using h4)]
          simp only [T30k3, sw_same, sw_nr, asCons_cons, asInt_int, asNil_nil]
          refine Wp.count 13 (fun j st σ' => σ' = σ ∧ st = [.int .i64 ((j : Nat) : Int), .int .i64 0] ∧ ∀ i, i < j → r ≠ marks.getD i 0) ⟨rfl, rfl, fun i hi => by omega⟩ ?_ ?_
          · rintro j st σ' hj ⟨rfl, rfl, hall⟩
            have e1 : wi64 ((j : Int) + 1) = (j : Int) + 1 := wi64_in (by omega)
            simp only [T30b0, asCons_cons, asInt_int, asNil_nil]
            rw [wp_bif, if_pos (by simp; omega), wp_join, wp_grd]
            refine ⟨by simp; omega, ?_⟩
            rw [Int.toNat_natCast, mark_at j hj, wp_bif]
            by_cases hm : r = marks.getD j 0
            · rw [if_pos (by simpa only [beq_iff_eq] using hm), cls_4 n1 h3 h4 (by
                rw [hm]
                have : marks.getD j 0 = marks[j]'(by simpa [marks] using hj) := by simp [List.getD, marks, hj]
                rw [this]
                exact List.getElem_mem _)]
              simp [wp_ret, T30k1, T30k2, sw_same, sw_re, asCons_cons, asInt_int, asNil_nil]
            · rw [if_neg (by simpa only [beq_iff_eq] using hm)]
              simp only [wp_ret, T30k1, sw_same, sw_nr, asCons_cons, asInt_int, asNil_nil, e1]
              refine ⟨trivial, by simp, fun i hi => ?_⟩
              by_cases hij : i = j
              · subst hij; exact hm
              · exact hall i (by omega)
          · rintro st σ' ⟨rfl, rfl, hall⟩
            have hm : ¬ r ∈ marks := by
              intro hm
              obtain ⟨i, hi, he⟩ := List.getElem_of_mem hm
              have hi' : i < 13 := by simpa [marks] using hi
              refine hall i hi' ?_
              rw [← he]
              simp [List.getD, hi]
            rw [cls_0 n1 h3 h4 hm]
            simp only [T30b0, asCons_cons, asInt_int, asNil_nil]
            rw [wp_bif, if_neg (by simp)]
            simp [wp_ret, T30k2, sw_same, asCons_cons, asInt_int, asNil_nil]


section
variable {σ : AHeap}
theorem wp_first {L : List UInt8} (hL : L ≠ []) (hl : L.length ≤ 1000000) {Q : Value → AHeap → Prop} (hQ : ∀ σ', Frm σ σ' NoB → Q (.tuple #[.int .i32 ((decL L).1 : Nat), .int .i64 ((decL L).2 : Nat)]) σ') : WpF PROG ovD 29 [.string (mkB L)] σ Q := by
  refine WpF.of (T29_eq _) rfl ?_
  have hsz := mkB_size L
  have hw := decL_width hL
  have e0 := decL_eq L 0 (by omega)
  rw [List.drop_zero] at e0
  rw [T29, wp_act, rng_eq]
  simp only [asPtr_ptr, asSome_some]
  refine Wp.loop (fun m st σ' => Frm σ σ' NoB ∧ σ.n < σ'.n ∧ ((m = 2 ∧ σ'.get σ.n = some (.iter (mkB L) 0) ∧ st = [.int .i64 0, .int .i64 (L.length : Nat), .int .i32 0]) ∨ (m = 1 ∧ σ'.get σ.n = some (.iter (mkB L) (decL L).2) ∧ st = [.int .i64 1, .int .i64 (L.length : Nat), .int .i32 ((decL L).1 : Nat)]))) 2
    ⟨Frm.rng _ _, by rw [AHeap.push_n]; omega, .inl ⟨rfl, get_push_same _ _, by rw [hsz]⟩⟩ ?_
  rintro m st σ' ⟨hF, hn, ⟨rfl, hg, rfl⟩ | ⟨rfl, hg, rfl⟩⟩
  · simp only [T29b0, asCons_cons, asInt_int, asNil_nil]
    have e1 : wi64 (0 + 1) = 1 := by decide
    rw [wp_nxt_more hg (by omega), e0, wp_join, wp_join, wp_bif, if_pos (by rfl), wp_ret]
    simp only [T29k0, sw_same, asCons_cons, asInt_int, asNil_nil]
    rw [wp_bif, if_neg (by simp), wp_ret, e1]
    simp only [T29k1, sw_ne, sw_same, asCons_cons, asInt_int, asNil_nil]
    rw [wp_ret]
    refine ⟨1, by decide, hF.putNew (Nat.le_refl _) hn _, hn, .inr ⟨rfl, ?_, rfl⟩⟩
    rw [get_put_same, Nat.zero_add]
  · simp only [T29b0, asCons_cons, asInt_int, asNil_nil]
    by_cases h1 : (decL L).2 < L.length
    · rw [wp_nxt_more hg (by omega), wp_join, wp_join, wp_bif, if_neg (by simp), wp_ret]
      simp only [T29k0, sw_same, asCons_cons, asInt_int, asNil_nil]
      rw [wp_bif, if_pos (by rfl), wp_ret]
      simp only [T29k1, sw_same, asCons_cons, asInt_int, asNil_nil]
      rw [wp_ret]
      simp only [T29k2, sw_same, asCons_cons, asInt_int, asNil_nil]
      rw [wp_ret]
      exact ⟨_, rfl, hQ _ (hF.putNew (Nat.le_refl _) hn _)⟩
    · have e2 : L.length = (decL L).2 := by omega
      rw [wp_nxt_end hg (by omega), wp_ret]
      simp only [T29k2, sw_same, asCons_cons, asInt_int, asNil_nil]
      rw [wp_ret, e2]
      exact ⟨_, rfl, hQ _ hF⟩
theorem wp_first0 {Q : Value → AHeap → Prop} (hQ : ∀ σ', Frm σ σ' NoB → Q (.tuple #[.int .i32 0, .int .i64 0]) σ') : WpF PROG ovD 29 [.string (mkB [])] σ Q := by
  refine WpF.of (T29_eq _) rfl ?_
  rw [T29, wp_act, rng_eq]
  simp only [asPtr_ptr, asSome_some]
  refine Wp.count 0 (fun _ st σ' => σ' = σ.push (.iter (mkB []) 0) ∧ st = [.int .i64 0, .int .i64 (((mkB []).size : Nat) : Int), .int .i32 0]) ⟨rfl, rfl⟩ (fun j _ _ hj _ => by omega) ?_
  rintro st σ' ⟨rfl, rfl⟩
  simp only [T29b0, asCons_cons, asInt_int, asNil_nil]
  rw [wp_nxt_end (get_push_same _ _) (by decide), wp_ret]
  simp only [T29k2, sw_same, asCons_cons, asInt_int, asNil_nil]
  rw [wp_ret]
  exact ⟨_, rfl, hQ _ (Frm.rng σ _)⟩

theorem wp_tail (L : List UInt8) {Q : Value → AHeap → Prop} (hQ : ∀ σ', Frm σ σ' NoB → Q (.int .i64 (run lod L : Nat)) σ') : WpF PROG ovD 32 [.string (mkB L)] σ Q := by
  refine WpF.of (T32_eq _) rfl ?_
  rw [T32, wp_act, rng_eq]
  simp only [asPtr_ptr, asSome_some]
  refine Wp.loop (fun m st σ' => ∃ p, m = L.length - p ∧ p ≤ L.length ∧ Frm σ σ' NoB ∧ σ.n < σ'.n ∧ σ'.get σ.n = some (.iter (mkB L) p) ∧ st = [.int .i64 0] ∧ run lod L = p + run lod (L.drop p)) L.length
    ⟨0, rfl, by omega, Frm.rng _ _, by rw [AHeap.push_n]; omega, get_push_same _ _, rfl, by simp⟩ ?_
  rintro m st σ' ⟨p, rfl, hp, hF, hn, hg', rfl, hr⟩
  simp only [T32b0, asCons_cons, asInt_int, asNil_nil]
  by_cases h1 : p < L.length
  · have hne : L.drop p ≠ [] := by simp; omega
    have hw := decL_width hne
    rw [List.length_drop] at hw
    rw [wp_nxt_more hg' (by rw [mkB_size]; exact h1), wp_join, wp_call, decL_eq L p hp, WpF.eq (ev_class' (decL_i32 _) _), asInt_int, wp_bif]
    rw [run_step hne] at hr
    by_cases hm : lod (decL (L.drop p)).1 = true
    · rw [if_pos hm, List.drop_drop] at hr
      have hm' := hm
      simp only [lod, Bool.or_eq_true, beq_iff_eq] at hm'
      rw [if_neg (by simpa using fun h => by rcases hm' with h' | h'; exact absurd h' h; exact h'), wp_ret]
      simp only [T32k0, sw_nr, sw_same, asCons_cons, asInt_int, asNil_nil]
      rw [wp_ret]
      refine ⟨_, ?_, p + (decL (L.drop p)).2, rfl, by omega, hF.putNew (Nat.le_refl _) hn _, hn, get_put_same _ _ _, rfl, by omega⟩
      omega
    · rw [if_neg hm] at hr
      have hm' := hm
      simp only [lod, Bool.or_eq_true, beq_iff_eq, not_or] at hm'
      rw [if_pos (by simpa using hm'), wp_ret]
      simp only [T32k0, T32k1, sw_same, asCons_cons, asInt_int, asNil_nil]
      rw [wp_ret]
      simp only [sw_re, sw_same, asCons_cons, asInt_int, asNil_nil]
      rw [wp_ret]
      rw [Nat.add_zero] at hr
      rw [← hr]
      exact ⟨_, rfl, hQ _ (hF.putNew (Nat.le_refl _) hn _)⟩
  · obtain rfl : p = L.length := by omega
    rw [wp_nxt_end hg' (by rw [mkB_size]; omega), wp_ret]
    simp only [T32k1, sw_same, asCons_cons, asInt_int, asNil_nil]
    rw [wp_ret, mkB_size]
    rw [List.drop_length, run_nil, Nat.add_zero] at hr
    rw [← hr]
    exact ⟨_, rfl, hQ _ hF⟩

theorem wp_countR (L : List UInt8) (hs : L.length ≤ 1000000) {Q : Value → AHeap → Prop} (hQ : ∀ σ', Frm σ σ' NoB → Q (.int .i64 (cnt (mkB L) : Nat)) σ') : WpF PROG ovD 33 [.string (mkB L)] σ Q := by
  refine WpF.of (T33_eq _) rfl ?_
  have hsz := mkB_size L
  have hcl := cntL_le L
  rw [T33, wp_act, rng_eq]
  simp only [asPtr_ptr, asSome_some]
  refine Wp.loop (fun m st σ' => ∃ p c : Nat, m = (mkB L).size - p ∧ Frm σ σ' NoB ∧ σ.n < σ'.n ∧ σ'.get σ.n = some (.iter (mkB L) p) ∧ st = [.int .i64 ((c : Nat) : Int)] ∧ c + cntF (mkB L) ((mkB L).size - p) p = cnt (mkB L) ∧ c ≤ p ∧ p ≤ (mkB L).size) (mkB L).size
    ⟨0, 0, rfl, Frm.rng _ _, by rw [AHeap.push_n]; omega, get_push_same _ _, rfl, by simp [cnt], Nat.le_refl _, Nat.zero_le _⟩ ?_
  rintro m st σ' ⟨p, c, rfl, hF, hn, hg, rfl, hc, hcp, hp⟩
  simp only [T33b0, asCons_cons, asInt_int, asNil_nil]
  by_cases h1 : p < (mkB L).size
  · have hw := width (mkB L) h1
    have e1 : wi64 ((c : Int) + 1) = ((c + 1 : Nat) : Int) := by rw [wi64_in (by omega)]; omega
    rw [wp_nxt_more hg h1, wp_join, wp_ret]
    simp only [T33k0, sw_same, asCons_cons, asInt_int, asNil_nil, wp_ret, e1]
    refine ⟨_, ?_, p + (Utf8.decode (mkB L) p).2, c + 1, rfl, hF.putNew (Nat.le_refl _) hn _, hn, get_put_same _ _ _, rfl, ?_, by omega, hw.2⟩
    · omega
    · have : cntF (mkB L) ((mkB L).size - p) p = cntF (mkB L) ((mkB L).size - (p + (Utf8.decode (mkB L) p).2)) (p + (Utf8.decode (mkB L) p).2) + 1 := by
        obtain ⟨f, hf⟩ : ∃ f, (mkB L).size - p = f + 1 := ⟨(mkB L).size - p - 1, by omega⟩
        rw [hf]
        conv => lhs; unfold cntF
        rw [if_pos h1, cntF_fuel (mkB L) f ((mkB L).size - (p + (Utf8.decode (mkB L) p).2)) _ (by omega) (by omega)]
      omega
  · obtain rfl : p = (mkB L).size := by omega
    rw [wp_nxt_end hg h1, wp_ret]
    have : cnt (mkB L) = c := by
      rw [Nat.sub_self] at hc
      simpa [cntF] using hc.symm
    simp only [T33k1, sw_same, asCons_cons, asInt_int, asNil_nil]
    rw [wp_ret, ← this]
    exact ⟨_, rfl, hQ _ hF⟩

theorem wp_namedR (t : List UInt8) (hl : t.length ≤ 1000000) {Q : Value → AHeap → Prop} (hQ : ∀ σ', Frm σ σ' NoB → Q (.bool (nmL t)) σ') : WpF PROG ovD 17 [.string (mkB t)] σ Q := by
  refine WpF.of (T17_eq _) rfl ?_
  have hsz := mkB_size t
  rw [T17, wp_call]
  have no : nmL t = false → ∀ σ', Frm σ σ' NoB → Wp PROG ovD (T17k0 .normal [.bool false]) σ' fun _ vs σ' => ∃ v, vs = [v] ∧ Q v σ' := by
    intro h σ' hF
    simp only [T17k0, sw_same, asCons_cons, asBool_bool, asNil_nil]
    rw [wp_ret]
    have := hQ σ' hF
    rw [h] at this
    exact ⟨_, rfl, this⟩
  by_cases h0 : t = []
  · subst h0
    refine wp_first0 fun σ1 hF1 => ?_
    simp only [asTuple_tuple, asCons_cons, asInt_int, asNil_nil]
    rw [wp_join, wp_bif, if_neg (by decide), wp_ret]
    exact no (by simp [nmL]) σ1 hF1
  have hlen := List.length_pos_iff.2 h0
  refine wp_first h0 hl fun σ1 hF1 => ?_
  simp only [asTuple_tuple, asCons_cons, asInt_int, asNil_nil]
  rw [wp_join, wp_bif, if_pos (by simp; omega), wp_call, WpF.eq (ev_class' (decL_i32 _) _), asInt_int, wp_bif]
  by_cases h1 : ¬ (clsF ((decL t).1 : Nat) = 1 ∧ (decL t).1 ≠ 39)
  · rw [if_neg (by intro h; apply h1; simp at h; exact ⟨h.1, by omega⟩), wp_ret]
    exact no (by unfold nmL; simp; intro _ _ h2 _ h3; exact absurd ⟨h3, h2⟩ h1) σ1 hF1
  rw [Decidable.not_not] at h1
  rw [if_pos (by simp; omega), wp_call, WpF.eq (ev_upper (decL_i32 _) _), asBool_bool, wp_bif]
  by_cases h2 : isUpperU ((decL t).1 : Nat) = true
  · rw [if_neg (by simp [h2]), wp_ret]
    exact no (by simp [nmL, h2]) σ1 hF1
  have h2' : isUpperU ((decL t).1 : Nat) = false := by simpa using h2
  rw [if_pos (by simp [h2']), wp_call]
  refine wp_tail t fun σ2 hF2 => ?_
  have hF02 := hF1.seq hF2
  rw [asInt_int, wp_bif]
  by_cases h3 : ¬ run lod t = t.length
  · rw [if_neg (by simp; omega), wp_ret]
    exact no (by simp [nmL, h3]) σ2 hF02
  rw [Decidable.not_not] at h3
  rw [if_pos (by simp; omega), wp_call]
  refine wp_countR t hl fun σ3 hF3 => ?_
  rw [asInt_int, wp_ret]
  have hnm : nmL t = decide ((cnt (mkB t) : Int) ≤ 40) := by
    unfold nmL
    simp [h0, h1.1, h1.2, h2', h3]
    omega
  simp only [T17k0, sw_same, asCons_cons, asBool_bool, asNil_nil]
  rw [wp_ret, ← hnm]
  exact ⟨_, rfl, hQ _ (hF02.seq hF3)⟩
end
end Go.Pg
