/- Layer 5: moved, odd. -/
import Derived.Test.YtoilldfibaeokaaDoorTyZ
namespace Go.Pg
open Go.Proofs

def mvA (y : Int) (a : TA) : TA := ⟨a.kind, a.name, if a.kind = 7 then wi64 (a.var + y) else a.var⟩
mutual
def movT (y : Int) : Tr TA → Tr TA
  | .mk a l => .mk (mvA y a) (movL y l)
def movL (y : Int) : List (Tr TA) → List (Tr TA)
  | [] => []
  | a :: l => movT y a :: movL y l
end
theorem movL_map (y : Int) : ∀ l : List (Tr TA), movL y l = l.map (movT y)
  | [] => by rw [movL]; rfl
  | a :: l => by rw [movL, movL_map y l]; rfl
theorem movT_eq (y : Int) (a : TA) (l : List (Tr TA)) : movT y (.mk a l) = .mk (mvA y a) (l.map (movT y)) := by rw [movT, movL_map]

theorem wp_moved {ov : Ov} (hO : OvT ov) {Y : Nat → Prop} {y : Int} : ∀ (n : Nat) (σ : AHeap) (cs : List Value) (t : Tr TA), VIn L4 σ Y n cs t → fitT n t →
    WpF PROG ov 28 [.agg cs.toArray, .int .i64 y] σ fun v σ' => Frm σ σ' NoB ∧ ∃ cs', v = .agg cs'.toArray ∧ VIn L4 σ' (fun j => j < σ.n) n cs' (movT y t) := by
  intro n
  induction n with
  | zero => intro σ cs t _ h; exact h.elim
  | succ n ih =>
    rintro σ cs ⟨a, args⟩ ⟨ho, e, p, cap, rfl, hr⟩ ⟨hl4, _, hfit⟩
    simp only [Tr.a, Tr.args] at hr hl4 hfit ⊢
    refine WpF.of (T28_eq _ _ _ _ _ _ _) (hO _ (by decide) (by decide) (by decide)) ?_
    rw [T28]
    refine wp_newQ fun σ1 hF1 hn1 hS1 => ?_
    refine wp_newQ fun σ2 hF2 hn2 hS2 => ?_
    have hS1 := hF2.stN hS1
    rw [wp_ldF hS1 rfl, asInt_int, wp_ldF hS1 rfl, asStr_str, wp_ldF hS1 rfl, asInt_int]
    refine wp_newQ fun σ3 hF3 hn3 hS3 => ?_
    refine wp_stQ hS3 rfl rfl fun σ4 hF4 hn4 hS4 => ?_
    have hS1 := hF4.st (hF3.stN hS1) (by omega)
    have hS2 := hF4.st (hF3.stN hS2) (by omega)
    have hF : Frm σ σ4 NoB := ((hF1.seq hF2).seq hF3).fresh hF4 fun j hj h => by omega
    have hn : σ4.n = σ.n + 3 := by omega
    rw [show σ1.n = σ.n + 1 by omega] at hS2 ⊢
    rw [show σ2.n = σ.n + 2 by omega] at hS4 ⊢
    clear hF1 hF2 hF3 hF4 hS3 hn1 hn2 hn3 hn4
    rw [movT_eq]
    rw [wp_ldF hS1 rfl, asInt_int, wp_join, wp_bif]
    have rest : ∀ σ4 : AHeap, Frm σ σ4 NoB → σ4.n = σ.n + 3 → St σ4 σ.n (L4.cells a e (.slice p args.length cap)) → St σ4 (σ.n + 1) [.int .i64 0, .string (bs []), .int .i64 0, .slice none 0 0] → St σ4 (σ.n + 2) (L4.cells (mvA y a) none (.slice none 0 0)) →
        Wp PROG ov (T28k2 ⟨σ.n, 0, some 0⟩ ⟨σ.n + 2, 0, some 0⟩ y ⟨σ.n + 1, 0, some 0⟩ .normal []) σ4 fun _ vs σ' => ∃ v, vs = [v] ∧ Frm σ σ' NoB ∧ ∃ cs', v = .agg cs'.toArray ∧ VIn L4 σ' (fun j => j < σ.n) (n + 1) cs' (.mk (mvA y a) (args.map (movT y))) := fun σ4 hF hn hS1 hS2 hS4 => by
      have hr4 := hr.frm hF
      simp only [T28k2, sw_same, asNil_nil]
      refine Wp.count args.length (fun j st σ' => st = [.int .i64 ((j : Nat) : Int)] ∧ Frm σ σ' NoB ∧ σ.n + 3 ≤ σ'.n ∧ St σ' σ.n (L4.cells a e (.slice p args.length cap)) ∧ (∃ v, St σ' (σ.n + 1) v ∧ v.length = 4) ∧ RowOf σ' Y 4 (VIn L4 σ' Y n) p args ∧
          ∃ q cap2 b css, St σ' (σ.n + 2) (L4.cells (mvA y a) none (.slice q j cap2)) ∧ SlE σ' b q cap2 4 css.flatten ∧ (q ≠ none → σ.n + 3 ≤ b) ∧ Elts 4 (VIn L4 σ' (fun i => i < σ.n + 3 ∨ (q ≠ none ∧ i = b)) n) css ((args.map (movT y)).take j))
        ⟨rfl, hF, by omega, hS1, ⟨_, hS2, rfl⟩, hr4, none, 0, 0, [], hS4, .inl ⟨rfl, rfl, rfl⟩, fun h => absurd rfl h, Elts.nil⟩ ?_ ?_
      · rintro j st σ5 hj ⟨rfl, hF5, hn5, hA, hB, hR, q, cap2, b, css, hW, hQ, hqb, hE⟩
        have ej : wi64 ((j : Int) + 1) = ((j + 1 : Nat) : Int) := by rw [wi64_in (by omega)]; omega
        simp only [T28b0, asCons_cons, asInt_int, asNil_nil]
        rw [wp_ldF hA rfl, asSlice_slice, wp_bif, if_pos (by simp; omega), wp_join, wp_ldF hW rfl, asSlice_slice, wp_ldF hA rfl, asSlice_slice]
        refine wp_rowOf hR hj rfl fun cs hV => ?_
        have hrec := ih σ5 cs _ hV (hfit _ (List.getElem_mem hj))
        have htk := List.take_succ_eq_append_getElem (l := args.map (movT y)) (i := j) (by simpa using hj)
        rw [List.getElem_map] at htk
        generalize args[j] = x at hV hrec htk
        obtain ⟨_, e', p', cap', rfl⟩ := hV.cells
        simp only [asAgg_agg, asCons_cons, asInt_int, asStr_str, asSlice_slice, asNil_nil]
        rw [wp_call]
        refine WpF.mono hrec ?_
        rintro _ σ6 ⟨hF6, cs', rfl, hV'⟩
        generalize movT y x = x' at hV' htk
        have hcs' := hV'
        obtain ⟨_, e2, p2, c2, rfl⟩ := hV'.cells
        simp only [asAgg_agg, asCons_cons, asInt_int, asStr_str, asSlice_slice, asNil_nil]
        have hA6 := hF6.stN hA
        have hW6 := hF6.stN hW
        have hQ6 : SlE σ6 b q cap2 4 css.flatten := hQ.frm hF6 fun _ h => h
        have hjl : css.flatten.length = j * 4 := by
          rw [flat_len hE.2.1, hE.1, List.length_take, Nat.min_eq_left (by rw [List.length_map]; omega)]
        refine wp_appC hQ6 hjl (by decide) (by decide) rfl (ones4 (e := none) rfl) (by omega) (by omega) (fun σ' hF' => ?_) fun σ7 b' off s cap3 hF7 hb7 hR7 => ?_
        · exact chks_one ((hF'.stN hW6).ldF rfl)
        have hbl : q ≠ none → b < σ5.n := fun h => hQ.lt h
        have hW7 := hF7.st hW6 (by rintro ⟨h, rfl⟩; have := hqb h; omega)
        have hA7 := hF7.st hA6 (by rintro ⟨h, rfl⟩; have := hqb h; omega)
        have hF57 : Frm σ5 σ7 (fun j => q ≠ none ∧ j = b) := hF6.no.seq hF7
        refine wp_st1Q hW7 (by simp) rfl fun σ8 hF8 hn8 hS8 => ?_
        rw [wp_ret]
        simp only [T28k0, sw_same, asNil_nil]
        rw [wp_ret, ej]
        have hb' : σ.n + 3 ≤ b' := by
          rcases hb7 with ⟨h1, rfl⟩ | h1
          · exact hqb h1
          · have := hF6.n
            omega
        have hF58 : Frm σ σ8 NoB := (hF5.fresh hF57 fun i hi h => by have := hqb h.1; omega).fresh hF8 fun i hi h => by omega
        have hn58 : σ.n + 3 ≤ σ8.n := by have := hF57.n; omega
        obtain ⟨v, hv, hvl⟩ := hB
        have hB8 := hF8.st (hF57.st hv (by rintro ⟨h, h'⟩; have := hqb h; omega)) (by omega)
        refine ⟨rfl, hF58, hn58, hF8.st hA7 (by omega), ⟨v, hB8, hvl⟩, hr.frm hF58, some ⟨b', off, some s⟩, cap3, b', css ++ [L4.cells x'.a e2 (.slice p2 x'.args.length c2)], ?_, .inr ⟨off, s, rfl, hF8.row (by simpa using hR7) (by omega)⟩, fun _ => hb', ?_⟩
        · simpa using hS8
        · rw [htk]
          have hstep : ∀ (Z : Nat → Prop) (cs : List Value) (t : Tr TA), VIn L4 σ6 Z n cs t → (∀ i, i < σ6.n → (q ≠ none ∧ i = b) → Z i) → (∀ i, i < σ6.n → (i < σ.n + 3 ∨ i = b') → Z i) → VIn L4 σ8 (fun i => i < σ.n + 3 ∨ ((some ⟨b', off, some s⟩ : Option Addr) ≠ none ∧ i = b')) n cs t := fun Z cs t h h1 h2 => by
            have h3 : VIn L4 σ7 (fun i => i < σ.n + 3 ∨ i = b') n cs t := h.step hF7 h1 h2
            have h4 : VIn L4 σ8 (fun i => i < σ.n + 3 ∨ i = b') n cs t := h3.step hF8 (fun i hi h => by omega) (fun i hi h => h)
            exact h4.step (Frm.refl σ8 NoB) (fun i hi h => h.elim) (fun i hi h => h.imp id fun h => h.2)
          refine hE.snoc (fun cs t h => ?_) rfl ?_
          · refine hstep _ cs t (h.frm hF6) (fun i hi h => .inr h) fun i hi h => ?_
            rcases h with h | rfl
            · exact .inl h
            · rcases hb7 with ⟨h1, rfl⟩ | h1
              · exact .inr ⟨h1, rfl⟩
              · omega
          · refine hstep _ _ _ hcs' (fun i hi h => by rw [h.2]; exact hbl h.1) fun i hi h => ?_
            rcases h with h | rfl
            · show i < σ5.n
              omega
            · rcases hb7 with ⟨h1, rfl⟩ | h1
              · exact hbl h1
              · omega
      · rintro st σ5 ⟨rfl, hF5, hn5, hA, ⟨v, hB, hvl⟩, hR, q, cap2, b, css, hW, hQ, hqb, hE⟩
        rw [List.take_of_length_le (by simp)] at hE
        simp only [T28b0, asCons_cons, asInt_int, asNil_nil]
        rw [wp_ldF hA rfl, asSlice_slice, wp_bif, if_neg (by simp), wp_ret]
        simp only [T28k1, sw_same, asCons_cons, asInt_int, asNil_nil]
        rw [wp_ldAll hW 4 rfl]
        simp only [asAgg_agg, asCons_cons, asInt_int, asStr_str, asSlice_slice, asNil_nil]
        refine wp_stQ hB (by simp [hvl]) rfl fun σ6 hF6 hn6 hS6 => ?_
        rw [wp_ldAll hS6 4 rfl, wp_ret]
        refine ⟨_, rfl, hF5.fresh hF6 fun i hi h => by omega, _, rfl, trivial, none, q, cap2, by simp [Tr.a, Tr.args], ?_⟩
        have h1 : RowOf σ5 (fun j => j < σ.n + 3) 4 (VIn L4 σ5 (fun i => i < σ.n + 3) n) q (args.map (movT y)) := SlE.rowOf hQ (fun h h' => by have := hqb h; omega) (by decide) (hE.mono fun cs t h => h.step (Frm.refl σ5 NoB) (fun i hi h => h.elim) (fun i hi h => .inl h))
        exact h1.step hF6 (fun i hi h => by omega) (fun i hi h => by omega) fun cs t h => h.step hF6 (fun i hi h => by omega) (fun i hi h => by omega)
    by_cases h7 : a.kind = 7
    · rw [if_pos (by simpa using h7), wp_ldF hS1 rfl, asInt_int]
      refine wp_st1Q hS4 (by simp) rfl fun σ5 hF5 hn5 hS5 => ?_
      rw [wp_ret]
      exact rest σ5 (hF.fresh hF5 fun i hi h => by omega) (by omega) (hF5.st hS1 (by omega)) (hF5.st hS2 (by omega)) (by unfold mvA; rw [if_pos h7]; simpa using hS5)
    · rw [if_neg (by simpa using h7), wp_ret]
      exact rest σ4 hF hn hS1 hS2 (by unfold mvA; rw [if_neg h7]; exact hS4)

end Go.Pg
