/- Layer 22: every result of a sequence of calls of Add equals that of the document's own keeper: the law's tree returns true for all integers and every row. -/
import Derived.Test.YtahkbdmoodjnbaaKeep4
namespace Go.Pg
open Go.Proofs

/-- Add, as a function: what goes, the number, what is kept. -/
def stepK (every most : Int) (l : List Int) (x : Int) : List Int × Int × List Int :=
  if wants every l x = true then
    (if ((l ++ [x]).length : Int) ≤ most then ([], 0, l ++ [x])
     else ([(l ++ [x]).getD (pick (l ++ [x]) ((l ++ [x]).length - 2)) 0], 0, (l ++ [x]).eraseIdx (pick (l ++ [x]) ((l ++ [x]).length - 2))))
  else ([], 1, l)

/-- A row that may be none, in a block that was made behind n. -/
def Gone (σ : AHeap) (n : Nat) (p : Option Addr) (l : List Int) : Prop := (p = none ∧ l = []) ∨ ∃ g, n ≤ g ∧ p = some ⟨g, 0, some 1⟩ ∧ Row σ g 0 1 1 1 (ints .i64 l)
theorem Gone.rdI {σ : AHeap} {n : Nat} {p : Option Addr} {l : List Int} (h : Gone σ n p l) : RdI σ .i64 p l := by
  rcases h with ⟨rfl, rfl⟩ | ⟨g, _, rfl, hR⟩
  · intro i hi; cases hi
  · exact hR.rdI
theorem Gone.frm {σ σ' : AHeap} {S : Nat → Prop} {n : Nat} {p : Option Addr} {l : List Int} (h : Gone σ n p l) (f : Frm σ σ' S) (hS : ∀ j, S j → j < n) : Gone σ' n p l := by
  rcases h with ⟨rfl, rfl⟩ | ⟨g, hg, rfl, hR⟩
  · exact .inl ⟨rfl, rfl⟩
  · exact .inr ⟨g, hg, rfl, f.row hR fun hs => by have := hS g hs; omega⟩

structure KOK (most : Int) (l : List Int) : Prop where
  ne : 1 ≤ l.length
  len : (l.length : Int) ≤ most
  last : 0 ≤ lastI l

theorem step_ok {every most : Int} {l : List Int} (hm : 2 ≤ most) (h : KOK most l) (x : Int) : KOK most (stepK every most l x).2.2 := by
  have h1 := h.ne
  have h2 := h.len
  have h3 := h.last
  unfold stepK
  split
  · rename_i hw
    unfold wants at hw
    simp only [Bool.and_eq_true, decide_eq_true_eq] at hw
    split
    · rename_i hle
      exact ⟨by simp, hle, by rw [getD_last_append]; omega⟩
    · rename_i hle
      simp only [List.length_append, List.length_singleton] at hle
      have hp := pick_le (l ++ [x]) ((l ++ [x]).length - 2)
      simp only [List.length_append, List.length_singleton] at hp ⊢
      generalize pick (l ++ [x]) (l.length + 1 - 2) = a at hp
      have hea : (l ++ [x]).eraseIdx a = l.eraseIdx a ++ [x] := List.eraseIdx_append_of_lt_length (by omega) _
      have hlen : (l.eraseIdx a).length = l.length - 1 := by rw [List.length_eraseIdx_of_lt (by omega)]
      refine ⟨?_, ?_, ?_⟩
      · rw [hea]; simp
      · rw [hea, List.length_append, hlen, List.length_singleton]; omega
      · rw [hea, getD_last_append]; omega
  · exact h

section
variable {σ : AHeap} {b c : Nat} {every most : Int} {l : List Int}
theorem wp_addP (h : KS σ b c every most l) (hO : KOK most l) (he : every ≠ 0) (hm : 2 ≤ most ∧ most ≤ 64) (x : Int) {Q : Value → AHeap → Prop}
    (hQ : ∀ p n2 σ', Frm σ σ' (fun j => j = b ∨ j = c) → Gone σ' σ.n p (stepK every most l x).1 → KS σ' b c every most (stepK every most l x).2.2 → Q (.tuple #[.slice p (stepK every most l x).1.length n2, .int .i64 (stepK every most l x).2.1]) σ') :
    WpF PROG ov0 26 [KP b, .int .i64 x] σ Q := by
  have h1 := hO.ne
  have h2 := hO.len
  unfold stepK at hQ
  by_cases hw : wants every l x = true
  · refine wp_add h h1 (by omega) he hm.1 x hw fun v σ' hA => ?_
    obtain ⟨hF, hA⟩ := hA
    rw [if_pos hw] at hQ
    by_cases hle : ((l ++ [x]).length : Int) ≤ most
    · rw [if_pos hle] at hQ hA
      obtain ⟨rfl, hK⟩ := hA
      exact hQ none 0 σ' hF (.inl ⟨rfl, rfl⟩) hK
    · rw [if_neg hle] at hQ hA
      obtain ⟨g, hg, rfl, hR, hK⟩ := hA
      exact hQ _ 1 σ' hF (.inr ⟨g, hg, rfl, hR⟩) hK
  · rw [if_neg hw] at hQ
    rw [WpF.eq (ev_add_no h h1 (by omega) he x (by simpa using hw))]
    exact hQ none 0 σ (Frm.refl _ _) (.inl ⟨rfl, rfl⟩) h

theorem wp_addP' (h : KS σ b c every most l) (hO : KOK most l) (he : every ≠ 0) (hm : 2 ≤ most ∧ most ≤ 64) (x : Int) {Q : Value → AHeap → Prop}
    (hQ : ∀ p n2 σ' c', Frm σ σ' (fun j => j = b) → (c' = c ∨ σ.n ≤ c') → Gone σ' σ.n p (stepK every most l x).1 → KS σ' b c' every most (stepK every most l x).2.2 → Q (.tuple #[.slice p (stepK every most l x).1.length n2, .int .i64 (stepK every most l x).2.1]) σ') :
    WpF PROG ov0 27 [KP b, .int .i64 x] σ Q := by
  have h1 := hO.ne
  have h2 := hO.len
  have h3 := hO.last
  unfold stepK at hQ
  by_cases hw : wants every l x = true
  · refine wp_add' h h1 (by omega) he hm.1 h3 x hw fun v σ' hA => ?_
    obtain ⟨hF, c', hc', hA⟩ := hA
    rw [if_pos hw] at hQ
    by_cases hle : ((l ++ [x]).length : Int) ≤ most
    · rw [if_pos hle] at hQ hA
      obtain ⟨rfl, hK⟩ := hA
      exact hQ none 0 σ' c' hF (.inr hc') (.inl ⟨rfl, rfl⟩) hK
    · rw [if_neg hle] at hQ hA
      obtain ⟨g, hg, rfl, hR, hK⟩ := hA
      exact hQ _ 1 σ' c' hF (.inr hc') (.inr ⟨g, hg, rfl, hR⟩) hK
  · rw [if_neg hw] at hQ
    rw [WpF.eq (ev_add_no' h h1 (by omega) he h3 x (by simpa using hw))]
    exact hQ none 0 σ c (Frm.refl _ _) (.inl rfl) (.inl ⟨rfl, rfl⟩) h
end

theorem eqv_refl (v : Value) : eqv v v = true := by simp [eqv, sameV]
theorem past_one {h : Act} {v : Value} {σ τ : AHeap} (e : h σ = some (v, τ)) : past h v [σ] = true := by
  simp [past, chkAt, e, eqv_refl]

theorem keepPlays_true (a0 a1 : Int) (p2 : Option Addr) (n4 : Nat) (l : List Int) (a5 : Int) (old : Addr → Option Value) (hold : ∀ σ : AHeap, σ.old = old → RdI σ .i64 p2 l) :
    WpF PROG ov0 6 [.int .i64 a0, .int .i64 a1, .slice p2 l.length n4, .int .i64 a5] (startH old) fun v _ => v = .bool true := by
  refine WpF.of (T6_eq _ _ _ _ _ _) rfl ?_
  rw [T6, wp_call]
  refine wp_awake22 _ fun σ0 hF0 => ?_
  have ho0 : σ0.old = old := hF0.old
  simp only [asBool_bool]
  rw [wp_bif, if_neg (by simp), wp_call]
  cases hmay : mayNew a0 a1 with
  | false =>
    rw [WpF.eq (ev_new_no σ0 hmay)]
    simp only [asTuple_tuple, asCons_cons, asPtr_ptr, asInt_int, asNil_nil]
    rw [wp_bif, new_test, hmay, if_pos (by rfl), wp_ret]
    exact ⟨_, rfl, rfl⟩
  | true =>
    refine wp_new σ0 hmay fun σ1 hF1 hK1 => ?_
    simp only [asTuple_tuple, asCons_cons, asPtr_ptr, asInt_int, asNil_nil]
    rw [wp_bif, new_test, hmay, if_neg (by simp), wp_join, wp_bif, if_pos (by simp), wp_ret]
    simp only [T6k3, sw_same, asCons_cons, asBool_bool, asNil_nil]
    unfold mayNew at hmay
    rw [decide_eq_true_eq] at hmay
    rw [wp_bif]
    by_cases h80 : (l.length : Int) > 80
    · rw [if_pos (decide_eq_true h80), wp_ret]
      exact ⟨_, rfl, rfl⟩
    · rw [if_neg (by rw [decide_eq_false h80]; simp), wp_act, bdSl_eq]
      simp only [asSlice_slice]
      rw [wp_act, newC_eq]
      simp only [asPtr_ptr, asSome_some, newBlk_n]
      have hFa := Frm.new σ1 [.int .i64 0] 1 (fun _ => False)
      have hNa := Row.new σ1 1 [.int .i64 0] 1 (by decide) rfl (by intro x hx; simp at hx; subst hx; rfl)
      have hFb := Frm.new (σ1.newBlk [.int .i64 0] 1) [.int .i64 a0, .int .i64 a1, .slice (some ⟨σ1.n, 0, some 1⟩) 1 1] 0 (fun _ => False)
      have hKw : KS ((σ1.newBlk [.int .i64 0] 1).newBlk [.int .i64 a0, .int .i64 a1, .slice (some ⟨σ1.n, 0, some 1⟩) 1 1] 0) (σ1.n + 1) σ1.n a0 a1 [0] := ⟨0, 1, 1, by omega, St.new _ _, hFb.row hNa (fun h => h)⟩
      have hKk := (hK1.frm hFa (fun h => h) (fun h => h)).frm hFb (fun h => h) (fun h => h)
      have hn1 : σ0.n + 2 ≤ σ1.n := by
        obtain ⟨_, _, _, _, hS, _⟩ := hK1
        have := hS.1
        omega
      have ho1 : σ1.old = old := hF1.old.trans ho0
      refine Wp.count l.length (fun j st σ' => st = [.int .i64 ((j : Nat) : Int), .bool false] ∧ σ'.old = old ∧ ∃ cw m, KS σ' (σ0.n + 1) σ0.n a0 a1 m ∧ KS σ' (σ1.n + 1) cw a0 a1 m ∧ σ1.n ≤ cw ∧ KOK a1 m)
        ⟨rfl, ho1, σ1.n, [0], hKk, hKw, Nat.le_refl _, ⟨by simp, by simp; omega, by simp [lastI]⟩⟩ ?_ ?_
      · rintro j st σ2 hj ⟨rfl, ho2, cw, m, hK, hW, hcw, hO⟩
        have hml := hO.len
        have hmn := hO.ne
        obtain ⟨a, hpa, _⟩ := hold σ2 ho2 j hj
        have rd : ∀ σ : AHeap, σ.old = old → ld1 (aadd a (j * 1)) σ = some (.int .i64 (l.getD j 0), σ) := by
          intro σ hσ
          obtain ⟨a', e1, e2⟩ := hold σ hσ j hj
          rw [hpa] at e1
          cases e1
          exact e2
        have g : (decide (0 ≤ ((j : Nat) : Int)) && decide (((j : Nat) : Int) < ((l.length : Nat) : Int))) = true := by simp; omega
        have ej : wi64 ((j : Int) + 1) = (j : Int) + 1 := wi64_in (by omega)
        generalize l.getD j 0 = x at rd
        have hw1 := ev_wants hK hmn (by omega) (by omega) x
        have hw2 := ev_wants' hW hmn (by omega) (by omega) hO.last x
        simp only [T6b0, asCons_cons, asInt_int, asBool_bool, asNil_nil, hpa, asSome_some, Int.toNat_natCast, g]
        rw [wp_bif, if_pos (by simp; omega), wp_join, wp_grd]
        refine ⟨rfl, ?_⟩
        rw [wp_act, rd _ ho2]
        simp only [asInt_int]
        rw [wp_get, wp_call, WpF.eq hw1, asBool_bool, wp_grd]
        refine ⟨rfl, ?_⟩
        rw [wp_act, rd _ ho2]
        simp only
        rw [wp_grd]
        refine ⟨past_one (rd _ ho2), ?_⟩
        rw [asInt_int, wp_call, WpF.eq hw2, asBool_bool, wp_bif, if_neg (by simp), wp_grd]
        refine ⟨rfl, ?_⟩
        rw [wp_act, rd _ ho2]
        simp only [asInt_int]
        rw [wp_call]
        have hn2 : σ1.n + 1 < σ2.n := by
          obtain ⟨_, _, _, _, hS, _⟩ := hW
          exact hS.1
        have hcw2 : cw < σ2.n := by
          obtain ⟨_, _, _, _, _, hR⟩ := hW
          exact hR.lt
        have hcb : cw ≠ σ1.n + 1 := by
          obtain ⟨_, _, _, h, _, _⟩ := hW
          exact h
        refine wp_addP hK hO (by omega) (by omega) x fun p n2 σ3 hF3 hG3 hK3 => ?_
        have ho3 : σ3.old = old := hF3.old.trans ho2
        have hW3 := hW.frm hF3 (by omega) (by omega)
        have hn3 := hF3.n
        simp only [asTuple_tuple, asCons_cons, asSlice_slice, asInt_int, asNil_nil]
        rw [wp_grd]
        refine ⟨rfl, ?_⟩
        rw [wp_act, rd _ ho3]
        simp only [asInt_int]
        rw [wp_call]
        refine wp_addP' hW3 hO (by omega) (by omega) x fun p' n2' σ4 c' hF4 hc' hG4 hW4 => ?_
        have ho4 : σ4.old = old := hF4.old.trans ho3
        have hK4 := hK3.frm hF4 (by omega) (by omega)
        have hG34 := hG3.frm hF4 (fun j hj => by omega)
        have hn4 := hF4.n
        have hO4 := step_ok (every := a0) (by omega) hO x
        have hl4 := hO4.len
        have hne4 := hO4.ne
        have hgl : (stepK a0 a1 m x).1.length ≤ 1000 := by
          unfold stepK
          split
          · split <;> simp
          · simp
        generalize hst : stepK a0 a1 m x = stp at *
        obtain ⟨ga, er, m'⟩ := stp
        simp only at hG3 hK3 hG4 hW4 hK4 hG34 hO4 hl4 hne4 hgl ⊢
        simp only [asTuple_tuple, asCons_cons, asSlice_slice, asInt_int, asNil_nil]
        have hc1 := ev_counts hG34.rdI hG4.rdI hgl n2 n2'
        rw [decide_eq_true rfl] at hc1
        rw [wp_join, wp_bif, if_pos (by simp), wp_call, WpF.eq hc1, asBool_bool, wp_bif, if_pos (by rfl), wp_get, wp_call]
        refine wp_kept hK4 hne4 (by omega) fun σ5 s5 cap5 hF5 hR5 => ?_
        have ho5 : σ5.old = old := hF5.old.trans ho4
        have hK5 := hK4.frm hF5 (fun h => h) (fun h => h)
        have hW5 := hW4.frm hF5 (fun h => h) (fun h => h)
        have hbf1 := ev_before hK5 (by omega) a5
        have hbf2 := ev_before' hW5 (by omega) a5
        have hgp1 := ev_gap hK5 hne4 (by omega)
        have hgp2 := ev_gap' hW5 hne4 (by omega)
        obtain ⟨off, s, cap, hne, hS, hR⟩ := hW4
        have hS5 := hF5.st hS (fun h => h)
        have hR5w := hF5.row hR (fun h => h)
        have hld4 : ld1 (aadd ⟨σ1.n + 1, 0, some 0⟩ 2) σ4 = some (Slc c' off s m'.length cap, σ4) := hS.ld rfl
        have hld5 : ld1 (aadd ⟨σ1.n + 1, 0, some 0⟩ 2) σ5 = some (Slc c' off s m'.length cap, σ5) := hS5.ld rfl
        have hc2 := ev_counts hR5.rdI hR5w.rdI (by omega) cap5 cap
        rw [decide_eq_true rfl] at hc2
        simp only [asSlice_slice]
        rw [wp_act, hld5]
        simp only
        rw [wp_grd]
        refine ⟨past_one hld4, ?_⟩
        simp only [asSlice_slice]
        rw [wp_call, WpF.eq hc2, asBool_bool, wp_bif, if_pos (by rfl), wp_call, WpF.eq hbf1, asInt_int, wp_call]
        rw [WpF.eq hbf2, asInt_int, wp_bif, if_pos (by simp), wp_call, WpF.eq hgp1, asInt_int, wp_call, WpF.eq hgp2, asInt_int, wp_ret]
        simp only [T6k0, T6k1, sw_same, sw_nr, asCons_cons, asBool_bool, asNil_nil, bne_self_eq_false, wp_bif, Bool.false_eq_true, if_false, wp_ret, ej]
        exact ⟨by simp, ho5, c', m', hK5, hW5, by omega, hO4⟩
      · rintro st σ2 ⟨rfl, _⟩
        simp only [T6b0, asCons_cons, asInt_int, asBool_bool, asNil_nil]
        rw [wp_bif, if_neg (by simp), wp_ret]
        simp [wp_ret, T6k2, sw_same, asCons_cons, asInt_int, asBool_bool, asNil_nil]

theorem keepPlays_law (a0 : Int) (_ : (Lit.int .i64 a0).wf = true) (a1 : Int) (_ : (Lit.int .i64 a1).wf = true) (p2 : Option Addr) (n4 : Nat) (l : List Int) (a5 : Int) (_ : (Lit.int .i64 a5).wf = true) (old : Addr → Option Value) (hold : ∀ σ : AHeap, σ.old = old → RdI σ .i64 p2 l) :
    WpF PROG ov0 6 [.int .i64 a0, .int .i64 a1, .slice p2 l.length n4, .int .i64 a5] (startH old) fun v _ => v = .bool true := keepPlays_true a0 a1 p2 n4 l a5 old hold

end Go.Pg
