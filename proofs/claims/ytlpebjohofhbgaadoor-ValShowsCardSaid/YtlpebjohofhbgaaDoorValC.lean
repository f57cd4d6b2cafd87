/- Layer 9: a value, a type, values as the document's own: the same trees, in blocks of their own. -/
import Derived.Test.YtlpebjohofhbgaaDoorValB
namespace Go.Pg
open Go.Proofs

/-- The elements of a row that grows: each with its cells. -/
def Elts {β : Type} (c : Nat) (R : List Value → β → Prop) (css : List (List Value)) (ts : List β) : Prop := css.length = ts.length ∧ (∀ cs ∈ css, cs.length = c) ∧ ∀ i (h1 : i < css.length) (h2 : i < ts.length), R css[i] ts[i]
theorem Elts.nil {β : Type} {c : Nat} {R : List Value → β → Prop} : Elts c R [] ([] : List β) := ⟨rfl, (fun _ h => by cases h), fun i h1 _ => by cases h1⟩
theorem Elts.snoc {β : Type} {c : Nat} {R R' : List Value → β → Prop} {css : List (List Value)} {ts : List β} {cs : List Value} {t : β} (h : Elts c R css ts) (hR : ∀ cs t, R cs t → R' cs t) (hc : cs.length = c) (h1 : R' cs t) : Elts c R' (css ++ [cs]) (ts ++ [t]) := by
  obtain ⟨e1, e2, e3⟩ := h
  refine ⟨by simp [e1], fun x hx => ?_, fun i h1' h2' => ?_⟩
  · rcases List.mem_append.1 hx with hx | hx
    · exact e2 x hx
    · simp only [List.mem_singleton] at hx
      rw [hx]
      exact hc
  · by_cases hi : i < css.length
    · rw [List.getElem_append_left hi, List.getElem_append_left (by omega)]
      exact hR _ _ (e3 i hi (by omega))
    · have : i = css.length := by simp at h1'; omega
      subst this
      rw [List.getElem_append_right (by omega), List.getElem_append_right (by omega)]
      simpa using h1
theorem Elts.mono {β : Type} {c : Nat} {R R' : List Value → β → Prop} {css : List (List Value)} {ts : List β} (h : Elts c R css ts) (hR : ∀ cs t, R cs t → R' cs t) : Elts c R' css ts := ⟨h.1, h.2.1, fun i h1 h2 => hR _ _ (h.2.2 i h1 h2)⟩

theorem ones8 {a : VA} {e : Option Addr} {s : Value} (hs : one s = true) : ∀ y ∈ L8.cells a e s, one y = true := by
  intro y hy
  simp only [List.mem_cons, List.mem_nil_iff, or_false] at hy
  rcases hy with rfl | rfl | rfl | rfl | rfl | rfl | rfl | rfl <;> first | rfl | exact hs
theorem ones4 {a : TA} {e : Option Addr} {s : Value} (hs : one s = true) : ∀ y ∈ L4.cells a e s, one y = true := by
  intro y hy
  simp only [List.mem_cons, List.mem_nil_iff, or_false] at hy
  rcases hy with rfl | rfl | rfl | rfl <;> first | rfl | exact hs

theorem SlE.rowOf {σ : AHeap} {Y : Nat → Prop} {b cap c : Nat} {p : Option Addr} {β : Type} {R : List Value → β → Prop} {css : List (List Value)} {ts : List β} (h : SlE σ b p cap c css.flatten) (hY : p ≠ none → ¬ Y b) (h0 : 1 ≤ c) (hE : Elts c R css ts) : RowOf σ Y c R p ts := by
  rcases h with ⟨rfl, _, h2⟩ | ⟨off, s, rfl, h⟩
  · have : css = [] := by
      cases css with
      | nil => rfl
      | cons cs css =>
        have h1 := hE.2.1 cs (by simp)
        simp only [List.flatten_cons, List.append_eq_nil_iff] at h2
        rw [h2.1] at h1
        simp at h1
        omega
    subst this
    have : ts = [] := List.length_eq_zero_iff.1 hE.1.symm
    subst this
    exact RowOf.nil
  · exact RowOf.own h (hY (by simp)) hE.1 hE.2.1 hE.2.2

theorem wp_vl {Y : Nat → Prop} : ∀ (n : Nat) (σ : AHeap) (cs : List Value) (t : Tr VA), VIn L7 σ Y n cs t → fitV n t →
    WpF PROG ovD 10 [.agg cs.toArray] σ fun v σ' => Frm σ σ' NoB ∧ ∃ cs', v = .agg cs'.toArray ∧ VIn L8 σ' (fun j => j < σ.n) n cs' t := by
  intro n
  induction n with
  | zero => intro σ cs t _ h; exact h.elim
  | succ n ih =>
    rintro σ cs ⟨a, args⟩ ⟨ho, e, p, cap, rfl, hr⟩ ⟨hl4, _, hfit⟩
    simp only [Tr.a, Tr.args] at hr hl4 hfit ⊢
    refine WpF.of (T10_eq _ _ _ _ _ _ _ _ _) rfl ?_
    rw [T10]
    refine wp_newQ fun σ1 hF1 hn1 hS1 => ?_
    refine wp_newQ fun σ2 hF2 hn2 hS2 => ?_
    have hS1 := hF2.stN hS1
    rw [wp_ldF hS1 rfl, asInt_int, wp_ldF hS1 rfl, asInt_int, wp_ldF hS1 rfl, asStr_str, wp_ldF hS1 rfl, asInt_int, wp_ldF hS1 rfl, asInt_int]
    refine wp_newQ fun σ3 hF3 hn3 hS3 => ?_
    refine wp_stQ hS3 rfl rfl fun σ4 hF4 hn4 hS4 => ?_
    have hS1 := hF4.st (hF3.stN hS1) (by omega)
    have hS2 := hF4.st (hF3.stN hS2) (by omega)
    have hF : Frm σ σ4 NoB := ((hF1.seq hF2).seq hF3).fresh hF4 fun j hj h => by omega
    have hr4 := hr.frm hF
    have hn : σ4.n = σ.n + 3 := by omega
    rw [show σ1.n = σ.n + 1 by omega] at hS2 ⊢
    rw [show σ2.n = σ.n + 2 by omega] at hS4 ⊢
    clear hF1 hF2 hF3 hF4 hS3 hn1 hn2 hn3 hn4
    refine Wp.count args.length (fun j st σ' => st = [.int .i64 ((j : Nat) : Int)] ∧ Frm σ σ' NoB ∧ σ.n + 3 ≤ σ'.n ∧ St σ' σ.n (L7.cells a e (.slice p args.length cap)) ∧ (∃ v, St σ' (σ.n + 1) v ∧ v.length = 8) ∧ RowOf σ' Y 7 (VIn L7 σ' Y n) p args ∧
        ∃ q cap2 b css, St σ' (σ.n + 2) (L8.cells a none (.slice q j cap2)) ∧ SlE σ' b q cap2 8 css.flatten ∧ (q ≠ none → σ.n + 3 ≤ b) ∧ Elts 8 (VIn L8 σ' (fun i => i < σ.n + 3 ∨ (q ≠ none ∧ i = b)) n) css (args.take j))
      ⟨rfl, hF, by omega, hS1, ⟨_, hS2, rfl⟩, hr4, none, 0, 0, [], hS4, .inl ⟨rfl, rfl, rfl⟩, fun h => absurd rfl h, Elts.nil⟩ ?_ ?_
    · rintro j st σ5 hj ⟨rfl, hF5, hn5, hA, hB, hR, q, cap2, b, css, hW, hQ, hqb, hE⟩
      have ej : wi64 ((j : Int) + 1) = ((j + 1 : Nat) : Int) := by rw [wi64_in (by omega)]; omega
      simp only [T10b0, asCons_cons, asInt_int, asNil_nil]
      rw [wp_ldF hA rfl, asSlice_slice, wp_bif, if_pos (by simp; omega), wp_join, wp_ldF hW rfl, asSlice_slice, wp_ldF hA rfl, asSlice_slice]
      refine wp_rowOf hR hj rfl fun cs hV => ?_
      have hrec := ih σ5 cs _ hV (hfit _ (List.getElem_mem hj))
      have htk := List.take_succ_eq_append_getElem hj
      generalize args[j] = x at hV hrec htk
      obtain ⟨_, e', p', cap', rfl⟩ := hV.cells
      simp only [asAgg_agg, asCons_cons, asInt_int, asStr_str, asSlice_slice, asPtr_ptr, asNil_nil]
      rw [wp_call]
      refine WpF.mono hrec ?_
      rintro _ σ6 ⟨hF6, cs', rfl, hV'⟩
      have hcs' := hV'
      obtain ⟨_, e2, p2, c2, rfl⟩ := hV'.cells
      simp only [asAgg_agg, asCons_cons, asInt_int, asStr_str, asSlice_slice, asPtr_ptr, asNil_nil]
      have hA6 := hF6.stN hA
      have hW6 := hF6.stN hW
      have hQ6 : SlE σ6 b q cap2 8 css.flatten := hQ.frm hF6 fun _ h => h
      have hjl : css.flatten.length = j * 8 := by
        rw [flat_len hE.2.1, hE.1, List.length_take, Nat.min_eq_left (by omega)]
      refine wp_appC hQ6 hjl (by decide) (by decide) rfl (ones8 rfl) (by omega) (by omega) (fun σ' hF' => ?_) fun σ7 b' off s cap3 hF7 hb7 hR7 => ?_
      · exact chks_one ((hF'.stN hW6).ldF rfl)
      have hbl : q ≠ none → b < σ5.n := fun h => hQ.lt h
      have hW7 := hF7.st hW6 (by rintro ⟨h, rfl⟩; have := hqb h; omega)
      have hA7 := hF7.st hA6 (by rintro ⟨h, rfl⟩; have := hqb h; omega)
      have hF57 : Frm σ5 σ7 (fun j => q ≠ none ∧ j = b) := hF6.no.seq hF7
      refine wp_st1Q hW7 (by simp) rfl fun σ8 hF8 hn8 hS8 => ?_
      rw [wp_ret]
      simp only [T10k0, sw_same, asNil_nil]
      rw [wp_ret, ej]
      have hb' : σ.n + 3 ≤ b' := by
        rcases hb7 with ⟨h1, rfl⟩ | h1
        · exact hqb h1
        · have := hF6.n
          omega
      have hF58 : Frm σ σ8 NoB := (hF5.fresh hF57 fun i hi h => by have := hqb h.1; omega).fresh hF8 fun i hi h => by omega
      have hn58 : σ.n + 3 ≤ σ8.n := by have := hF57.n; omega
      obtain ⟨v, hv, hvl⟩ := hB
      have hB8 := hF8.st (hF57.st hv (by rintro ⟨h, h'⟩; have := hqb h; omega)) (by omega)
      refine ⟨rfl, hF58, hn58, hF8.st hA7 (by omega), ⟨v, hB8, hvl⟩, hr.frm hF58, some ⟨b', off, some s⟩, cap3, b', css ++ [L8.cells x.a e2 (.slice p2 x.args.length c2)], ?_, .inr ⟨off, s, rfl, hF8.row (by simpa using hR7) (by omega)⟩, fun _ => hb', ?_⟩
      · simpa using hS8
      · rw [htk]
        have hstep : ∀ (Z : Nat → Prop) (cs : List Value) (t : Tr VA), VIn L8 σ6 Z n cs t → (∀ i, i < σ6.n → (q ≠ none ∧ i = b) → Z i) → (∀ i, i < σ6.n → (i < σ.n + 3 ∨ i = b') → Z i) → VIn L8 σ8 (fun i => i < σ.n + 3 ∨ ((some ⟨b', off, some s⟩ : Option Addr) ≠ none ∧ i = b')) n cs t := fun Z cs t h h1 h2 => by
          have h3 : VIn L8 σ7 (fun i => i < σ.n + 3 ∨ i = b') n cs t := h.step hF7 h1 h2
          have h4 : VIn L8 σ8 (fun i => i < σ.n + 3 ∨ i = b') n cs t := h3.step hF8 (fun i hi h => by omega) (fun i hi h => h)
          exact h4.step (Frm.refl σ8 NoB) (fun i hi h => h.elim) (fun i hi h => h.imp id fun h => h.2)
        refine hE.snoc (fun cs t h => ?_) rfl ?_
        · refine hstep _ cs t (h.frm hF6) (fun i hi h => .inr h) fun i hi h => ?_
          rcases h with h | rfl
          · exact .inl h
          · rcases hb7 with ⟨h1, rfl⟩ | h1
            · exact .inr ⟨h1, rfl⟩
            · omega
        · refine hstep _ _ _ hcs' (fun i hi h => by rw [h.2]; exact hbl h.1) fun i hi h => ?_
          rcases h with h | rfl
          · show i < σ5.n
            omega
          · rcases hb7 with ⟨h1, rfl⟩ | h1
            · exact hbl h1
            · omega
    · rintro st σ5 ⟨rfl, hF5, hn5, hA, ⟨v, hB, hvl⟩, hR, q, cap2, b, css, hW, hQ, hqb, hE⟩
      rw [List.take_length] at hE
      simp only [T10b0, asCons_cons, asInt_int, asNil_nil]
      rw [wp_ldF hA rfl, asSlice_slice, wp_bif, if_neg (by simp), wp_ret]
      simp only [T10k1, sw_same, asCons_cons, asInt_int, asNil_nil]
      rw [wp_ldAll hW 8 rfl]
      simp only [asAgg_agg, asCons_cons, asInt_int, asStr_str, asSlice_slice, asPtr_ptr, asNil_nil]
      refine wp_stQ hB (by simp [hvl]) rfl fun σ6 hF6 hn6 hS6 => ?_
      rw [wp_ldAll hS6 8 rfl, wp_ret]
      refine ⟨_, rfl, hF5.fresh hF6 fun i hi h => by omega, _, rfl, ho, none, q, cap2, rfl, ?_⟩
      have h1 : RowOf σ5 (fun j => j < σ.n + 3) 8 (VIn L8 σ5 (fun i => i < σ.n + 3) n) q args := SlE.rowOf hQ (fun h h' => by have := hqb h; omega) (by decide) (hE.mono fun cs t h => h.step (Frm.refl σ5 NoB) (fun i hi h => h.elim) (fun i hi h => .inl h))
      exact h1.step hF6 (fun i hi h => by omega) (fun i hi h => by omega) fun cs t h => h.step hF6 (fun i hi h => by omega) (fun i hi h => by omega)
theorem wp_ty1 {Y : Nat → Prop} : ∀ (n : Nat) (σ : AHeap) (cs : List Value) (t : Tr TA), VIn L4 σ Y n cs t → fitT n t →
    WpF PROG ovD 11 [.agg cs.toArray] σ fun v σ' => Frm σ σ' NoB ∧ ∃ cs', v = .agg cs'.toArray ∧ VIn L4 σ' (fun j => j < σ.n) n cs' t := by
  intro n
  induction n with
  | zero => intro σ cs t _ h; exact h.elim
  | succ n ih =>
    rintro σ cs ⟨a, args⟩ ⟨ho, e, p, cap, rfl, hr⟩ ⟨hl4, _, hfit⟩
    simp only [Tr.a, Tr.args] at hr hl4 hfit ⊢
    refine WpF.of (T11_eq _ _ _ _ _ _) rfl ?_
    rw [T11]
    refine wp_newQ fun σ1 hF1 hn1 hS1 => ?_
    refine wp_newQ fun σ2 hF2 hn2 hS2 => ?_
    have hS1 := hF2.stN hS1
    rw [wp_ldF hS1 rfl, asInt_int, wp_ldF hS1 rfl, asStr_str, wp_ldF hS1 rfl, asInt_int]
    refine wp_newQ fun σ3 hF3 hn3 hS3 => ?_
    refine wp_stQ hS3 rfl rfl fun σ4 hF4 hn4 hS4 => ?_
    have hS1 := hF4.st (hF3.stN hS1) (by omega)
    have hS2 := hF4.st (hF3.stN hS2) (by omega)
    have hF : Frm σ σ4 NoB := ((hF1.seq hF2).seq hF3).fresh hF4 fun j hj h => by omega
    have hr4 := hr.frm hF
    have hn : σ4.n = σ.n + 3 := by omega
    rw [show σ1.n = σ.n + 1 by omega] at hS2 ⊢
    rw [show σ2.n = σ.n + 2 by omega] at hS4 ⊢
    clear hF1 hF2 hF3 hF4 hS3 hn1 hn2 hn3 hn4
    refine Wp.count args.length (fun j st σ' => st = [.int .i64 ((j : Nat) : Int)] ∧ Frm σ σ' NoB ∧ σ.n + 3 ≤ σ'.n ∧ St σ' σ.n (L4.cells a e (.slice p args.length cap)) ∧ (∃ v, St σ' (σ.n + 1) v ∧ v.length = 4) ∧ RowOf σ' Y 4 (VIn L4 σ' Y n) p args ∧
        ∃ q cap2 b css, St σ' (σ.n + 2) (L4.cells a none (.slice q j cap2)) ∧ SlE σ' b q cap2 4 css.flatten ∧ (q ≠ none → σ.n + 3 ≤ b) ∧ Elts 4 (VIn L4 σ' (fun i => i < σ.n + 3 ∨ (q ≠ none ∧ i = b)) n) css (args.take j))
      ⟨rfl, hF, by omega, hS1, ⟨_, hS2, rfl⟩, hr4, none, 0, 0, [], hS4, .inl ⟨rfl, rfl, rfl⟩, fun h => absurd rfl h, Elts.nil⟩ ?_ ?_
    · rintro j st σ5 hj ⟨rfl, hF5, hn5, hA, hB, hR, q, cap2, b, css, hW, hQ, hqb, hE⟩
      have ej : wi64 ((j : Int) + 1) = ((j + 1 : Nat) : Int) := by rw [wi64_in (by omega)]; omega
      simp only [T11b0, asCons_cons, asInt_int, asNil_nil]
      rw [wp_ldF hA rfl, asSlice_slice, wp_bif, if_pos (by simp; omega), wp_join, wp_ldF hW rfl, asSlice_slice, wp_ldF hA rfl, asSlice_slice]
      refine wp_rowOf hR hj rfl fun cs hV => ?_
      have hrec := ih σ5 cs _ hV (hfit _ (List.getElem_mem hj))
      have htk := List.take_succ_eq_append_getElem hj
      generalize args[j] = x at hV hrec htk
      obtain ⟨_, e', p', cap', rfl⟩ := hV.cells
      simp only [asAgg_agg, asCons_cons, asInt_int, asStr_str, asSlice_slice, asNil_nil]
      rw [wp_call]
      refine WpF.mono hrec ?_
      rintro _ σ6 ⟨hF6, cs', rfl, hV'⟩
      have hcs' := hV'
      obtain ⟨_, e2, p2, c2, rfl⟩ := hV'.cells
      simp only [asAgg_agg, asCons_cons, asInt_int, asStr_str, asSlice_slice, asNil_nil]
      have hA6 := hF6.stN hA
      have hW6 := hF6.stN hW
      have hQ6 : SlE σ6 b q cap2 4 css.flatten := hQ.frm hF6 fun _ h => h
      have hjl : css.flatten.length = j * 4 := by
        rw [flat_len hE.2.1, hE.1, List.length_take, Nat.min_eq_left (by omega)]
      refine wp_appC hQ6 hjl (by decide) (by decide) rfl (ones4 (e := none) rfl) (by omega) (by omega) (fun σ' hF' => ?_) fun σ7 b' off s cap3 hF7 hb7 hR7 => ?_
      · exact chks_one ((hF'.stN hW6).ldF rfl)
      have hbl : q ≠ none → b < σ5.n := fun h => hQ.lt h
      have hW7 := hF7.st hW6 (by rintro ⟨h, rfl⟩; have := hqb h; omega)
      have hA7 := hF7.st hA6 (by rintro ⟨h, rfl⟩; have := hqb h; omega)
      have hF57 : Frm σ5 σ7 (fun j => q ≠ none ∧ j = b) := hF6.no.seq hF7
      refine wp_st1Q hW7 (by simp) rfl fun σ8 hF8 hn8 hS8 => ?_
      rw [wp_ret]
      simp only [T11k0, sw_same, asNil_nil]
      rw [wp_ret, ej]
      have hb' : σ.n + 3 ≤ b' := by
        rcases hb7 with ⟨h1, rfl⟩ | h1
        · exact hqb h1
        · have := hF6.n
          omega
      have hF58 : Frm σ σ8 NoB := (hF5.fresh hF57 fun i hi h => by have := hqb h.1; omega).fresh hF8 fun i hi h => by omega
      have hn58 : σ.n + 3 ≤ σ8.n := by have := hF57.n; omega
      obtain ⟨v, hv, hvl⟩ := hB
      have hB8 := hF8.st (hF57.st hv (by rintro ⟨h, h'⟩; have := hqb h; omega)) (by omega)
      refine ⟨rfl, hF58, hn58, hF8.st hA7 (by omega), ⟨v, hB8, hvl⟩, hr.frm hF58, some ⟨b', off, some s⟩, cap3, b', css ++ [L4.cells x.a e2 (.slice p2 x.args.length c2)], ?_, .inr ⟨off, s, rfl, hF8.row (by simpa using hR7) (by omega)⟩, fun _ => hb', ?_⟩
      · simpa using hS8
      · rw [htk]
        have hstep : ∀ (Z : Nat → Prop) (cs : List Value) (t : Tr TA), VIn L4 σ6 Z n cs t → (∀ i, i < σ6.n → (q ≠ none ∧ i = b) → Z i) → (∀ i, i < σ6.n → (i < σ.n + 3 ∨ i = b') → Z i) → VIn L4 σ8 (fun i => i < σ.n + 3 ∨ ((some ⟨b', off, some s⟩ : Option Addr) ≠ none ∧ i = b')) n cs t := fun Z cs t h h1 h2 => by
          have h3 : VIn L4 σ7 (fun i => i < σ.n + 3 ∨ i = b') n cs t := h.step hF7 h1 h2
          have h4 : VIn L4 σ8 (fun i => i < σ.n + 3 ∨ i = b') n cs t := h3.step hF8 (fun i hi h => by omega) (fun i hi h => h)
          exact h4.step (Frm.refl σ8 NoB) (fun i hi h => h.elim) (fun i hi h => h.imp id fun h => h.2)
        refine hE.snoc (fun cs t h => ?_) rfl ?_
        · refine hstep _ cs t (h.frm hF6) (fun i hi h => .inr h) fun i hi h => ?_
          rcases h with h | rfl
          · exact .inl h
          · rcases hb7 with ⟨h1, rfl⟩ | h1
            · exact .inr ⟨h1, rfl⟩
            · omega
        · refine hstep _ _ _ hcs' (fun i hi h => by rw [h.2]; exact hbl h.1) fun i hi h => ?_
          rcases h with h | rfl
          · show i < σ5.n
            omega
          · rcases hb7 with ⟨h1, rfl⟩ | h1
            · exact hbl h1
            · omega
    · rintro st σ5 ⟨rfl, hF5, hn5, hA, ⟨v, hB, hvl⟩, hR, q, cap2, b, css, hW, hQ, hqb, hE⟩
      rw [List.take_length] at hE
      simp only [T11b0, asCons_cons, asInt_int, asNil_nil]
      rw [wp_ldF hA rfl, asSlice_slice, wp_bif, if_neg (by simp), wp_ret]
      simp only [T11k1, sw_same, asCons_cons, asInt_int, asNil_nil]
      rw [wp_ldAll hW 4 rfl]
      simp only [asAgg_agg, asCons_cons, asInt_int, asStr_str, asSlice_slice, asNil_nil]
      refine wp_stQ hB (by simp [hvl]) rfl fun σ6 hF6 hn6 hS6 => ?_
      rw [wp_ldAll hS6 4 rfl, wp_ret]
      refine ⟨_, rfl, hF5.fresh hF6 fun i hi h => by omega, _, rfl, ho, none, q, cap2, rfl, ?_⟩
      have h1 : RowOf σ5 (fun j => j < σ.n + 3) 4 (VIn L4 σ5 (fun i => i < σ.n + 3) n) q args := SlE.rowOf hQ (fun h h' => by have := hqb h; omega) (by decide) (hE.mono fun cs t h => h.step (Frm.refl σ5 NoB) (fun i hi h => h.elim) (fun i hi h => .inl h))
      exact h1.step hF6 (fun i hi h => by omega) (fun i hi h => by omega) fun cs t h => h.step hF6 (fun i hi h => by omega) (fun i hi h => by omega)
theorem wp_vls {Y : Nat → Prop} {n : Nat} {σ : AHeap} {p : Option Addr} {ts : List (Tr VA)} (hr : RowOf σ Y 7 (VIn L7 σ Y n) p ts) (hl : ts.length ≤ 1000) (hfit : ∀ t ∈ ts, fitV n t) (cap : Nat) :
    WpF PROG ovD 12 [.slice p ts.length cap] σ fun v σ' => Frm σ σ' NoB ∧ ∃ q cap2, v = .slice q ts.length cap2 ∧ RowOf σ' (fun j => j < σ.n) 8 (VIn L8 σ' (fun j => j < σ.n) n) q ts := by
  refine WpF.of (T12_eq _ _ _) rfl ?_
  rw [T12]
  refine Wp.count ts.length (fun j st σ' => ∃ q cap2 b css, st = [.int .i64 ((j : Nat) : Int), .slice q j cap2] ∧ Frm σ σ' NoB ∧ SlE σ' b q cap2 8 css.flatten ∧ (q ≠ none → σ.n ≤ b) ∧ Elts 8 (VIn L8 σ' (fun i => i < σ.n ∨ (q ≠ none ∧ i = b)) n) css (ts.take j))
    ⟨none, 0, 0, [], rfl, Frm.refl _ _, .inl ⟨rfl, rfl, rfl⟩, fun h => absurd rfl h, Elts.nil⟩ ?_ ?_
  · rintro j st σ5 hj ⟨q, cap2, b, css, rfl, hF5, hQ, hqb, hE⟩
    have ej : wi64 ((j : Int) + 1) = ((j + 1 : Nat) : Int) := by rw [wi64_in (by omega)]; omega
    simp only [T12b0, asCons_cons, asInt_int, asSlice_slice, asNil_nil]
    rw [wp_bif, if_pos (by simp; omega), wp_join]
    refine wp_rowOf (hr.frm hF5) hj rfl fun cs hV => ?_
    have hrec := wp_vl n σ5 cs _ hV (hfit _ (List.getElem_mem hj))
    have htk := List.take_succ_eq_append_getElem hj
    generalize ts[j] = x at hV hrec htk
    obtain ⟨_, e', p', cap', rfl⟩ := hV.cells
    simp only [asAgg_agg, asCons_cons, asInt_int, asStr_str, asSlice_slice, asPtr_ptr, asNil_nil]
    rw [wp_call]
    refine WpF.mono hrec ?_
    rintro _ σ6 ⟨hF6, cs', rfl, hV'⟩
    have hcs' := hV'
    obtain ⟨_, e2, p2, c2, rfl⟩ := hV'.cells
    simp only [asAgg_agg, asCons_cons, asInt_int, asStr_str, asSlice_slice, asPtr_ptr, asNil_nil]
    have hQ6 : SlE σ6 b q cap2 8 css.flatten := hQ.frm hF6 fun _ h => h
    have hjl : css.flatten.length = j * 8 := by
      rw [flat_len hE.2.1, hE.1, List.length_take, Nat.min_eq_left (by omega)]
    refine wp_appE hQ6 hjl (by decide) (by decide) rfl (ones8 rfl) (by omega) (by omega) fun σ7 b' off s cap3 hF7 hb7 hR7 => ?_
    have hbl : q ≠ none → b < σ5.n := fun h => hQ.lt h
    have hF57 : Frm σ5 σ7 (fun j => q ≠ none ∧ j = b) := hF6.no.seq hF7
    rw [wp_ret]
    simp only [T12k0, sw_same, asCons_cons, asSlice_slice, asNil_nil]
    rw [wp_ret, ej]
    have hb' : σ.n ≤ b' := by
      rcases hb7 with ⟨h1, rfl⟩ | h1
      · exact hqb h1
      · have := hF6.n
        have := hF5.n
        omega
    have hF58 : Frm σ σ7 NoB := hF5.fresh hF57 fun i hi h => by have := hqb h.1; omega
    refine ⟨some ⟨b', off, some s⟩, cap3, b', css ++ [L8.cells x.a e2 (.slice p2 x.args.length c2)], rfl, hF58, .inr ⟨off, s, rfl, by simpa using hR7⟩, fun _ => hb', ?_⟩
    rw [htk]
    have hstep : ∀ (Z : Nat → Prop) (cs : List Value) (t : Tr VA), VIn L8 σ6 Z n cs t → (∀ i, i < σ6.n → (q ≠ none ∧ i = b) → Z i) → (∀ i, i < σ6.n → (i < σ.n ∨ i = b') → Z i) → VIn L8 σ7 (fun i => i < σ.n ∨ ((some ⟨b', off, some s⟩ : Option Addr) ≠ none ∧ i = b')) n cs t := fun Z cs t h h1 h2 => by
      have h3 : VIn L8 σ7 (fun i => i < σ.n ∨ i = b') n cs t := h.step hF7 h1 h2
      exact h3.step (Frm.refl σ7 NoB) (fun i hi h => h.elim) (fun i hi h => h.imp id fun h => h.2)
    refine hE.snoc (fun cs t h => ?_) rfl ?_
    · refine hstep _ cs t (h.frm hF6) (fun i hi h => .inr h) fun i hi h => ?_
      rcases h with h | rfl
      · exact .inl h
      · rcases hb7 with ⟨h1, rfl⟩ | h1
        · exact .inr ⟨h1, rfl⟩
        · omega
    · have hn5 := hF5.n
      refine hstep _ _ _ hcs' (fun i hi h => by rw [h.2]; exact hbl h.1) fun i hi h => ?_
      rcases h with h | rfl
      · show i < σ5.n
        omega
      · rcases hb7 with ⟨h1, rfl⟩ | h1
        · exact hbl h1
        · omega
  · rintro st σ5 ⟨q, cap2, b, css, rfl, hF5, hQ, hqb, hE⟩
    rw [List.take_length] at hE
    simp only [T12b0, asCons_cons, asInt_int, asSlice_slice, asNil_nil]
    rw [wp_bif, if_neg (by simp), wp_ret]
    simp only [T12k1, sw_same, asCons_cons, asInt_int, asSlice_slice, asNil_nil]
    rw [wp_ret]
    refine ⟨_, rfl, hF5, q, cap2, rfl, ?_⟩
    exact SlE.rowOf hQ (fun h h' => by have := hqb h; omega) (by decide) (hE.mono fun cs t h => h.step (Frm.refl σ5 NoB) (fun i hi h => h.elim) (fun i hi h => .inl h))
end Go.Pg
