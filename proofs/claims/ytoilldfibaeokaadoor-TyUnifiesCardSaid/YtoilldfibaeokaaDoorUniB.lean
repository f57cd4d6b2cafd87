/- Layer 5: New, Unify, Apply: what their calls come to. -/
import Derived.Test.YtoilldfibaeokaaDoorUniC
namespace Go.Pg
open Go.Proofs

def appL (f : AT → Option (Tr TA)) : List AT → Option (List (Tr TA))
  | [] => some []
  | a :: l => match f a with
    | none => none
    | some x => match appL f l with
      | none => none
      | some r => some (x :: r)
/-- What a type stands for, through and through. -/
def appM : Nat → SubL → AT → Option (Tr TA)
  | 0, _, _ => none
  | k + 1, S, t => match headM k S t with
    | none => none
    | some h => match appL (appM k S) h.args with
      | none => none
      | some l => some (.mk h.a.1 l)
theorem appL_get {f : AT → Option (Tr TA)} : ∀ {l : List AT} {r : List (Tr TA)}, appL f l = some r → r.length = l.length ∧ ∀ i (h : i < l.length) (h' : i < r.length), f l[i] = some r[i]
  | [], r, h => by
    cases h
    exact ⟨rfl, fun i h => by simp at h⟩
  | a :: l, r, h => by
    unfold appL at h
    split at h
    · cases h
    · rename_i x hx
      split at h
      · cases h
      · rename_i q hq
        cases h
        obtain ⟨h1, h2⟩ := appL_get hq
        refine ⟨by simp [h1], fun i hi hi' => ?_⟩
        cases i with
        | zero => exact hx
        | succ i => exact h2 i (by simpa using hi) (by simpa using hi')
theorem app_of_asz {S : SubL} : ∀ (k : Nat) (t : AT) (m : Int), aszM k S t = some m → ∃ T, appM k S t = some T
  | 0, _, _, h => by cases h
  | k + 1, t, m, h => by
    unfold aszM at h
    unfold appM
    split at h
    · cases h
    · rename_i x hx
      rw [hx]
      simp only
      have key : ∀ (l : List AT) (r : Int), aszL (aszM k S) l = some r → ∃ q, appL (appM k S) l = some q := by
        intro l
        induction l with
        | nil => intro r _; exact ⟨[], rfl⟩
        | cons a l ih =>
          intro r hr
          unfold aszL at hr
          split at hr
          · cases hr
          · rename_i m hm
            split at hr
            · cases hr
            · rename_i q hq
              obtain ⟨T, hT⟩ := app_of_asz k a m hm
              obtain ⟨w, hw⟩ := ih q hq
              exact ⟨T :: w, by simp only [appL, hT, hw]⟩
      obtain ⟨q, hq⟩ := key _ _ h
      rw [hq]
      exact ⟨_, rfl⟩

section
variable {ov : Ov} {σ : AHeap} {b r : Nat} {nx : Int} {S : SubL}
theorem wp_New (hO : OvT ov) (σ : AHeap) : WpF PROG ov 11 [] σ fun v σ' => v = .pointer (some ⟨σ.n + 1, 0, some 0⟩) ∧ Frm σ σ' NoB ∧ SubW σ' (σ.n + 1) σ.n 0 [] := by
  refine WpF.of T11_eq (hO _ (by decide) (by decide) (by decide)) ?_
  rw [T11, wp_act]
  have hF2 : Frm σ (σ.push (.map [])) NoB := ⟨Nat.le_succ _, rfl, fun j hj _ => get_push_lt _ _ hj, fun f j hj => by
    have hj' : σ.n + 1 ≤ j := hj
    rw [AHeap.get_push, if_neg (by omega)]
    exact f j (by omega)⟩
  simp only [makeMapAct, asMap_map]
  have hg := get_push_same σ (.map [])
  have hn : (σ.push (.map [])).n = σ.n + 1 := rfl
  generalize σ.push (.map []) = σ1 at hF2 hg hn ⊢
  refine wp_newQ fun σ2 hF3 hn2 hS2 => ?_
  rw [wp_ret]
  rw [hn] at hS2 ⊢
  refine ⟨_, rfl, rfl, hF2.seq hF3, SubW.of hS2 (by omega) ?_ fun p hp => by cases hp⟩
  rw [hF3.get σ.n (by omega) fun h => h]
  exact hg

theorem wp_Unify (hU : ov 12 = some unifyG) {x y : AT} (hw : SubW σ b r nx S) (hS : Inv S) (hx : AFull σ x) (hy : AFull σ y) (cx : cntM x ≤ 1000000) (cy : cntM y ≤ 1000000) :
    WpF PROG ov 12 [.pointer (some ⟨b, 0, some 0⟩), .agg x.c.toArray, .agg y.c.toArray] σ fun v σ' => v = .int .i64 (unifyM S x y).1 ∧ Frm σ σ' (· = b) ∧ ∃ r', SubW σ' b r' nx (unifyM S x y).2 ∧ (r' = r ∨ σ.n ≤ r') := by
  obtain ⟨σ', r', h1, h2, h3, h4⟩ := unify_act hw hS hx hy cx cy
  exact ⟨_, σ', EvF.ov hU h1, rfl, h2, r', h3, h4⟩

theorem wp_apply (hO : OvT ov) : ∀ (k : Nat) (σ : AHeap) (t : AT) (T : Tr TA), SubIn σ b r nx S → AFull σ t → appM k S t = some T →
    WpF PROG ov 39 [.pointer (some ⟨b, 0, some 0⟩), .agg t.c.toArray] σ fun v σ' => Frm σ σ' NoB ∧ ∃ cs', v = .agg cs'.toArray ∧ ∀ n, VIn L4 σ' (fun j => j < σ.n) n cs' T := by
  intro k
  induction k with
  | zero => intro σ t T _ _ h; cases h
  | succ k ih =>
    intro σ t T hs ht hT
    unfold appM at hT
    split at hT
    · cases hT
    rename_i h hh
    split at hT
    · cases hT
    rename_i Ts hTs
    cases hT
    obtain ⟨hTl, hTg⟩ := appL_get hTs
    have hhd := fun σ' (hF : Frm σ σ' NoB) => wp_head hO (hs.frm hF) (ht.frm hF) hh
    have hfull := headM_full hs.full ht hh
    obtain ⟨p, cap, hc⟩ := ht.cells
    rw [hc] at hhd ⊢
    refine WpF.of (T39_eq _ _ _ _ _ _ _) (hO _ (by decide) (by decide) (by decide)) ?_
    rw [T39]
    refine wp_newQ fun σ1 hF1 hn1 hS1 => ?_
    refine wp_newQ fun σ2 hF2 hn2 hS2 => ?_
    have hS1 := hF2.stN hS1
    have hF02 := hF1.seq hF2
    rw [wp_ldAll hS1 4 rfl]
    simp only [asAgg_agg, asCons_cons, asInt_int, asStr_str, asSlice_slice, asNil_nil]
    rw [wp_call]
    refine WpF.mono (hhd σ2 hF02) ?_
    rintro _ σ3 ⟨rfl, hF3⟩
    have hlen := hfull.len
    obtain ⟨hp, hcap, hhc, hrow⟩ := hfull.row
    rw [hhc]
    simp only [asAgg_agg, asCons_cons, asInt_int, asStr_str, asSlice_slice, asNil_nil]
    have hF03 := hF02.seq hF3
    refine wp_stQ (hF3.stN hS1) rfl rfl fun σ4 hF4 hn4 hS4 => ?_
    have hS2 := hF4.st (hF3.stN hS2) (by omega)
    have hF04 : Frm σ σ4 NoB := hF03.fresh hF4 fun i hi h => by omega
    have hn3 := hF3.n
    rw [wp_ldF hS4 rfl, asSlice_slice, wp_bif]
    by_cases h0 : h.args.length = 0
    · have hnil := List.length_eq_zero_iff.1 h0
      rw [if_pos (by simp; omega), wp_ldAll hS4 4 rfl]
      simp only [asAgg_agg, asCons_cons, asInt_int, asStr_str, asSlice_slice, asNil_nil]
      refine wp_stQ hS2 rfl rfl fun σ5 hF5 hn5 hS5 => ?_
      rw [wp_ldAll hS5 4 rfl, wp_ret]
      have hTn : Ts = [] := List.length_eq_zero_iff.1 (by omega)
      subst hTn
      refine ⟨_, rfl, hF04.fresh hF5 fun i hi h => by omega, _, rfl, fun n => ?_⟩
      rw [h0]
      cases n with
      | zero => exact ⟨trivial, none, hp, hcap, rfl⟩
      | succ n => exact ⟨trivial, none, hp, hcap, rfl, RowOf.nil⟩
    rw [if_neg (by intro e; rw [beq_iff_eq] at e; omega), wp_ldAll hS4 4 rfl]
    simp only [asAgg_agg, asCons_cons, asInt_int, asStr_str, asSlice_slice, asNil_nil]
    refine wp_newQ fun σ5 hF5 hn5 hS5 => ?_
    refine wp_stQ hS5 rfl rfl fun σ6 hF6 hn6 hS6 => ?_
    refine wp_st1Q hS6 (by simp) rfl fun σ7 hF7 hn7 hS7 => ?_
    have hA7 := hF7.st (hF6.st (hF5.stN hS4) (by omega)) (by omega)
    have hB7 := hF7.st (hF6.st (hF5.stN hS2) (by omega)) (by omega)
    have hF07 : Frm σ σ7 NoB := ((hF04.seq hF5).fresh hF6 fun i hi h => by omega).fresh hF7 fun i hi h => by omega
    obtain ⟨A, hA⟩ : ∃ A, σ4.n = A := ⟨_, rfl⟩
    rw [hA] at hF6 hF7 hS7 ⊢
    have hn7' : σ7.n = A + 1 := by omega
    have hAn : σ.n + 2 ≤ A := by omega
    rw [wp_ldF hA7 rfl, asSlice_slice]
    refine Wp.count h.args.length (fun j st σ' => st = [.int .i64 ((j : Nat) : Int)] ∧ Frm σ σ' NoB ∧ A + 1 ≤ σ'.n ∧ (∃ v, St σ' σ1.n v ∧ v.length = 4) ∧
        ∃ q cap2 b css, St σ' A (tcells h.a.1 (.slice q j cap2)) ∧ SlE σ' b q cap2 4 css.flatten ∧ (q ≠ none → A + 1 ≤ b) ∧ Elts 4 (fun cs t => ∀ n, VIn L4 σ' (fun i => i < A + 1 ∨ (q ≠ none ∧ i = b)) n cs t) css (Ts.take j))
      ⟨rfl, hF07, by omega, ⟨_, hB7, rfl⟩, none, 0, 0, [], hS7, .inl ⟨rfl, rfl, rfl⟩, fun h => absurd rfl h, Elts.nil⟩ ?_ ?_
    · rintro j st σ8 hj ⟨rfl, hF8, hn8, ⟨v, hB, hvl⟩, q, cap2, b', css, hW, hQ, hqb, hE⟩
      have ej : wi64 ((j : Int) + 1) = ((j + 1 : Nat) : Int) := by rw [wi64_in (by omega)]; omega
      simp only [T39b0, asCons_cons, asInt_int, asNil_nil]
      rw [wp_bif, if_pos (by simp; omega), wp_join]
      have hr8 := hrow.stepM hF8 Maps.none (R' := fun cs (u : AT) => cs = u.c ∧ AFull σ8 u) fun _ _ h => ⟨h.1, h.2.frm hF8⟩
      have hjT : j < Ts.length := by omega
      have hTj := hTg j hj hjT
      have htk := List.take_succ_eq_append_getElem hjT
      refine wp_rowOf hr8 hj rfl fun cs hX => ?_
      generalize h.args[j] = x at hX hTj
      generalize Ts[j] = X at hTj htk
      obtain ⟨rfl, hx⟩ := hX
      have hxi := fun σ' (hF : Frm σ8 σ' NoB) => ih σ' x X (hs.frm (hF8.seq hF)) (hx.frm hF) hTj
      obtain ⟨xp, xc, hxc⟩ := hx.cells
      rw [hxc] at hxi ⊢
      simp only [asAgg_agg, asCons_cons, asInt_int, asStr_str, asSlice_slice, asNil_nil]
      refine wp_newQ fun σ9 hF9 hn9 hS9 => ?_
      refine wp_stQ hS9 rfl rfl fun σ10 hF10 hn10 hS10 => ?_
      have hF810 : Frm σ8 σ10 NoB := hF9.fresh hF10 fun i hi h => by omega
      have hW10 := hF810.stN hW
      rw [wp_ldF hW10 rfl, asSlice_slice, wp_ldAll hS10 4 rfl]
      simp only [asAgg_agg, asCons_cons, asInt_int, asStr_str, asSlice_slice, asNil_nil]
      rw [wp_call]
      refine WpF.mono (hxi σ10 hF810) ?_
      rintro _ σ11 ⟨hF11, cs', rfl, hV'⟩
      obtain ⟨_, e2, p2, c2, rfl⟩ := (hV' 0).cells
      simp only [asAgg_agg, asCons_cons, asInt_int, asStr_str, asSlice_slice, asNil_nil]
      have hF811 := hF810.seq hF11
      have hW11 := hF11.stN hW10
      have hQ11 : SlE σ11 b' q cap2 4 css.flatten := hQ.frm hF811 fun _ h => h
      have hjl : css.flatten.length = j * 4 := by
        rw [flat_len hE.2.1, hE.1, List.length_take, Nat.min_eq_left (by omega)]
      refine wp_appC hQ11 hjl (by decide) (by decide) rfl (ones4 (e := none) rfl) (by omega) (by omega) (fun σ' hF' => ?_) fun σ12 b2 off s cap3 hF12 hb12 hR12 => ?_
      · exact chks_one ((hF'.stN hW11).ldF rfl)
      have hbl : q ≠ none → b' < σ8.n := fun h => hQ.lt h
      have hW12 := hF12.st hW11 (by rintro ⟨h, rfl⟩; have := hqb h; omega)
      have hF812 : Frm σ8 σ12 (fun j => q ≠ none ∧ j = b') := hF811.no.seq hF12
      have hn11 := hF811.n
      have hn10' := hF810.n
      refine wp_st1Q hW12 (by simp) rfl fun σ13 hF13 hn13 hS13 => ?_
      rw [wp_ret]
      simp only [T39k0, sw_same, asNil_nil]
      rw [wp_ret, ej]
      have hb2 : A + 1 ≤ b2 := by
        rcases hb12 with ⟨h1, rfl⟩ | h1
        · exact hqb h1
        · omega
      have hF013 : Frm σ σ13 NoB := (hF8.fresh hF812 fun i hi h => by have := hqb h.1; omega).fresh hF13 fun i hi h => by omega
      have hn12 := hF812.n
      have hB13 := hF13.st (hF812.st hB (by rintro ⟨h, h'⟩; have := hqb h; omega)) (by omega)
      refine ⟨rfl, hF013, by omega, ⟨v, hB13, hvl⟩, some ⟨b2, off, some s⟩, cap3, b2, css ++ [L4.cells X.a e2 (.slice p2 X.args.length c2)], ?_, .inr ⟨off, s, rfl, hF13.row (by simpa using hR12) (by omega)⟩, fun _ => hb2, ?_⟩
      · simpa using hS13
      · rw [htk]
        have hstep : ∀ (Z : Nat → Prop) (cs : List Value) (t : Tr TA), (∀ n, VIn L4 σ11 Z n cs t) → (∀ i, i < σ11.n → (q ≠ none ∧ i = b') → Z i) → (∀ i, i < σ11.n → (i < A + 1 ∨ i = b2) → Z i) → ∀ n, VIn L4 σ13 (fun i => i < A + 1 ∨ ((some ⟨b2, off, some s⟩ : Option Addr) ≠ none ∧ i = b2)) n cs t := fun Z cs t h h1 h2 n => by
          have h3 : VIn L4 σ12 (fun i => i < A + 1 ∨ i = b2) n cs t := (h n).step hF12 h1 h2
          have h4 : VIn L4 σ13 (fun i => i < A + 1 ∨ i = b2) n cs t := h3.step hF13 (fun i hi h => by omega) (fun i hi h => h)
          exact h4.step (Frm.refl σ13 NoB) (fun i hi h => h.elim) (fun i hi h => h.imp id fun h => h.2)
        refine hE.snoc (fun cs t h => ?_) rfl ?_
        · refine hstep _ cs t (fun n => (h n).frm hF811) (fun i hi h => .inr h) fun i hi h => ?_
          rcases h with h | rfl
          · exact .inl h
          · rcases hb12 with ⟨h1, rfl⟩ | h1
            · exact .inr ⟨h1, rfl⟩
            · omega
        · refine hstep _ _ _ hV' (fun i hi h => by rw [h.2]; have := hbl h.1; show b' < σ10.n; omega) fun i hi h => ?_
          show i < σ10.n
          rcases h with h | rfl
          · omega
          · rcases hb12 with ⟨h1, rfl⟩ | h1
            · have := hbl h1
              omega
            · omega
    · rintro st σ8 ⟨rfl, hF8, hn8, ⟨v, hB, hvl⟩, q, cap2, b', css, hW, hQ, hqb, hE⟩
      rw [List.take_of_length_le (by omega)] at hE
      simp only [T39b0, asCons_cons, asInt_int, asNil_nil]
      rw [wp_bif, if_neg (by simp), wp_ret]
      simp only [T39k1, sw_same, asCons_cons, asInt_int, asNil_nil]
      rw [wp_ldAll hW 4 rfl]
      simp only [asAgg_agg, asCons_cons, asInt_int, asStr_str, asSlice_slice, asNil_nil]
      refine wp_stQ hB (by simp [hvl]) rfl fun σ9 hF9 hn9 hS9 => ?_
      rw [wp_ldAll hS9 4 rfl, wp_ret]
      refine ⟨_, rfl, hF8.fresh hF9 fun i hi h => by omega, _, rfl, fun n => ?_⟩
      cases n with
      | zero => exact ⟨trivial, none, q, cap2, by simp [Tr.args, Tr.a, hTl]⟩
      | succ n =>
        refine ⟨trivial, none, q, cap2, by simp [Tr.args, Tr.a, hTl], ?_⟩
        have h1 : RowOf σ8 (fun j => j < A + 1) 4 (VIn L4 σ8 (fun i => i < A + 1) n) q Ts := SlE.rowOf hQ (fun h h' => by have := hqb h; omega) (by decide) (hE.mono fun cs t h => (h n).step (Frm.refl σ8 NoB) (fun i hi h => h.elim) (fun i hi h => .inl h))
        exact h1.step hF9 (fun i hi h => by omega) (fun i hi h => by omega) fun cs t h => h.step hF9 (fun i hi h => by omega) (fun i hi h => by omega)
end
end Go.Pg
