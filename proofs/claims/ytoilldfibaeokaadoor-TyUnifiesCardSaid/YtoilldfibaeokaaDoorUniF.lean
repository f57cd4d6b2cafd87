/- Layer 5: Apply, whose result stays when what was there before is written; rows of types that grow by two. -/
import Derived.Test.YtoilldfibaeokaaDoorUniE
namespace Go.Pg
open Go.Proofs

section
variable {P : Program} {ov : Ov}
/-- A row of elements of several cells is appended, that can be read. -/
theorem wp_apE {σ : AHeap} {b cap len cap2 n byt esz : Nat} {p p2 : Option Addr} {xs ys : List Value} {g : Option Addr → Nat → Nat → Pg} {Q : Post} (h : SlE σ b p cap esz xs) (h0 : 1 ≤ esz) (he : esz < 64) (hlen : xs.length = len * esz) (hcap : len ≤ cap) (hf : firstOf esz n σ (.slice p2 n cap2) = some ys) (hyo : ∀ y ∈ ys, one y = true) (hn : ys.length = n * esz)
    (hb : 2 * (len + n) * byt ≤ 281474976710656) (hb2 : len + n ≤ 4611686018427387904)
    (k : ∀ σ' b' p' cap', Frm σ σ' (fun j => p ≠ none ∧ j = b) → (p' = none ∨ (p ≠ none ∧ b' = b) ∨ σ.n ≤ b') → SlE σ' b' p' cap' esz (xs ++ ys) → len + n ≤ cap' → Wp P ov (g p' (len + n) cap') σ' Q) :
    Wp P ov (.act (apS esz byt p len cap p2 n cap2) fun w => asSlice w g) σ Q := by
  have e0 : apS esz byt p len cap p2 n cap2 σ = apCore esz byt p len cap n ys σ := by unfold apS; rw [hf]
  rw [wp_act, e0]
  by_cases hz : n = 0
  · subst hz
    have hy : ys = [] := List.length_eq_zero_iff.1 (by simpa using hn)
    subst hy
    rw [apCore_zero hcap]
    simp only [asSlice_slice]
    refine k σ b p cap (Frm.refl _ _) ?_ (by simpa using h) hcap
    cases p with
    | none => exact .inl rfl
    | some a => exact .inr (.inl ⟨by simp, rfl⟩)
  · rcases h with ⟨rfl, rfl, rfl⟩ | ⟨off, s, rfl, h⟩
    · have hl0 : len = 0 := by omega
      subst hl0
      rw [apCore_nil he (by omega) hn hyo (by simpa using hb) (by omega)]
      simp only [asSlice_slice]
      have := k (σ.newBlk ys esz) σ.n (some ⟨σ.n, 0, some esz⟩) n (Frm.new _ _ _ _) (.inr (.inr (Nat.le_refl _))) (.inr ⟨0, esz, rfl, by simpa using Row.new σ esz ys n he hn hyo⟩) (by omega)
      simpa using this
    · obtain ⟨σ', s', cap', e1, e2, e3, e4, e5⟩ := h.append (byt := byt) (len := len) (n := n) (ys := ys) hlen hn h0 (by omega) hyo hb hb2
      rw [e1]
      simp only [asSlice_slice]
      have hl := e5.len
      rw [List.length_append, hlen, hn, ← Nat.add_mul] at hl
      exact k σ' b _ cap' ((Frm.of1 h.lt e2 e3 e4).mono fun j _ e => ⟨by simp, e⟩) (.inr (.inl ⟨by simp, rfl⟩)) (.inr ⟨off, s', rfl, e5⟩) (Nat.le_of_mul_le_mul_right hl h0)
theorem SlE.fst {σ : AHeap} {b cap c n esz : Nat} {p : Option Addr} {xs : List Value} (h : SlE σ b p cap esz xs) (hn : xs.length = n * esz) : firstOf esz n σ (.slice p n c) = some xs := by
  rcases h with ⟨rfl, _, rfl⟩ | ⟨off, s, rfl, h⟩
  · have h0 : n * esz = 0 := by simpa using hn.symm
    unfold firstOf
    simp []
  · unfold firstOf
    have := h.rdN (i := 0) (k := n * esz) (by omega)
    rw [Nat.add_zero, List.drop_zero, List.take_of_length_le (by omega)] at this
    exact this

theorem SlE.room {σ : AHeap} {b cap len esz : Nat} {p : Option Addr} {xs : List Value} (h : SlE σ b p cap esz xs) (h0 : 1 ≤ esz) (hl : xs.length = len * esz) : len ≤ cap := by
  rcases h with ⟨_, rfl, rfl⟩ | ⟨off, s, _, h⟩
  · simp only [List.length_nil] at hl
    rcases Nat.mul_eq_zero.1 hl.symm with h | h <;> omega
  · have := h.len
    rw [hl] at this
    exact Nat.le_of_mul_le_mul_right this h0
/-- Several are appended. -/
theorem wp_apN {σ : AHeap} {b cap len n byt esz : Nat} {p : Option Addr} {xs ys : List Value} {g : Option Addr → Nat → Nat → Pg} {Q : Post} (h : SlE σ b p cap esz xs) (h0 : 1 ≤ esz) (he : esz < 64) (hlen : xs.length = len * esz) (hyo : ∀ y ∈ ys, one y = true) (hn : ys.length = n * esz)
    (hb : 2 * (len + n) * byt ≤ 281474976710656) (hb2 : len + n ≤ 4611686018427387904)
    (k : ∀ σ' b' p' cap', Frm σ σ' (fun j => p ≠ none ∧ j = b) → (p' = none ∨ (p ≠ none ∧ b' = b) ∨ σ.n ≤ b') → SlE σ' b' p' cap' esz (xs ++ ys) → Wp P ov (g p' (len + n) cap') σ' Q) :
    Wp P ov (.act (bdSl esz n ys) fun v => asSlice v fun p' n' c' => .act (apS esz byt p len cap p' n' c') fun w => asSlice w g) σ Q := by
  rw [wp_act, bdSl_eq]
  simp only [asSlice_slice]
  have hF := Frm.new σ ys esz NoB
  have hN : SlE (σ.newBlk ys esz) σ.n (some ⟨σ.n, 0, some esz⟩) n esz ys := .inr ⟨0, esz, rfl, Row.new σ esz ys n he hn hyo⟩
  have hnn := newBlk_n σ ys esz
  refine wp_apE (h.frm hF fun _ h => h) h0 he hlen (h.room h0 hlen) (hN.fst hn) hyo hn hb hb2 fun σ' b' p' cap' hF' hb' hR _ => ?_
  refine k σ' b' p' cap' (hF.trans hF' (fun _ _ h => h.elim) fun j _ h => h) ?_ hR
  rcases hb' with h | h | h
  · exact .inl h
  · exact .inr (.inl h)
  · exact .inr (.inr (by omega))
end

/-- A type of one's own, that stays while blocks are changed that it does not have. -/
theorem full_TK {σ : AHeap} {Y : Nat → Prop} : ∀ (k : Nat) (T : Tr TA) (cs : List Value), SizeOf.sizeOf T ≤ k → NW T → (∀ n, VIn L4 σ Y n cs T) → ∃ u : AT, u.c = cs ∧ strip u = T ∧ ∀ σ' (Z : Nat → Prop), Frm σ σ' Z → (∀ j, j < σ.n → Z j → Y j) → AFull σ' u := by
  intro k
  induction k with
  | zero => intro T cs h; cases T; simp at h
  | succ k ih =>
    rintro ⟨a, args⟩ cs hk hw hV
    rw [NW] at hw
    obtain ⟨_, e, p, cap, rfl⟩ := hV 0
    simp only [Tr.a, Tr.args] at *
    have hrow : ∀ n, RowOf σ Y 4 (VIn L4 σ Y n) p args := fun n => by
      obtain ⟨_, e', p', cap', hc, hr⟩ := hV (n + 1)
      simp only [Tr.a, Tr.args, List.cons.injEq, Value.slice.injEq, true_and, and_true] at hc
      rw [hc.1]
      exact hr
    obtain ⟨us, hul, hus⟩ := choose_list (α := AT) args.length (fun i u => ∃ h : i < args.length, ∃ x cs, p = some x ∧ Vis σ Y x ∧ σ.rdN (aadd x (i * 4)) 4 = some cs ∧ u.c = cs ∧ strip u = args[i] ∧ ∀ σ' (Z : Nat → Prop), Frm σ σ' Z → (∀ j, j < σ.n → Z j → Y j) → AFull σ' u) (fun i hi => by
      obtain ⟨x, cs, q1, q2, q3, _⟩ := hrow 0 i hi
      have hall : ∀ n, VIn L4 σ Y n cs args[i] := fun n => by
        obtain ⟨x', cs', r1, _, r3, r4⟩ := hrow n i hi
        rw [q1] at r1
        cases r1
        rw [q3] at r3
        cases r3
        exact r4
      have := List.sizeOf_lt_of_mem (List.getElem_mem hi)
      simp only [Tr.mk.sizeOf_spec] at hk
      obtain ⟨u, s1, s2, s3⟩ := ih args[i] cs (by omega) (NWL_mem hw.2.2 _ (List.getElem_mem hi)) hall
      exact ⟨u, hi, x, cs, q1, q2, q3, s1, s2, s3⟩)
    refine ⟨.mk (a, L4.cells a e (.slice p args.length cap)) us, rfl, ?_, fun σ' Z hF hZ => ?_⟩
    · rw [strip, stripL_map]
      congr 1
      refine List.ext_getElem (by simp [hul]) fun i h1 h2 => ?_
      obtain ⟨hi', _, _, _, _, _, _, q6, _⟩ := hus i (by simpa using h1)
      rw [List.getElem_map, q6]
    · refine AFull.of (p := p) (cap := cap) (by simp only [Tr.args]; omega) (by simp only [Tr.args, hul, AT.c, Tr.a]) fun i hi => ?_
      obtain ⟨hi', x, cs, q1, q2, q3, q4, q5, q6⟩ := hus i hi
      refine ⟨x, cs, q1, ?_, ?_, q4.symm, q6 σ' Z hF hZ⟩
      · exact (q2.step (Y' := NoB) hF fun _ _ h => h.elim)
      · rw [rdN_keep hF q2 hZ]
        exact q3

section
variable {ov : Ov} {σ : AHeap} {b r : Nat} {nx : Int} {S : SubL}
/-- What stays while blocks below n are changed. -/
def Stays (σ : AHeap) (n : Nat) (u : AT) : Prop := ∀ σ' (Z : Nat → Prop), Frm σ σ' Z → (∀ j, j < σ.n → Z j → j < n) → AFull σ' u
theorem Stays.full {n : Nat} {u : AT} (h : Stays σ n u) : AFull σ u := h σ NoB (Frm.refl _ _) fun _ _ h => h.elim
theorem wp_ApplyK (hO : OvT ov) {t : AT} {T : Tr TA} {k : Nat} (hs : SubIn σ b r nx S) (ht : AFull σ t) (hg : goodM t = true) (hT : appM k S t = some T) (hN : NW T) :
    WpF PROG ov 17 [.pointer (some ⟨b, 0, some 0⟩), .agg t.c.toArray] σ fun v σ' => Frm σ σ' NoB ∧ ∃ u : AT, v = .agg u.c.toArray ∧ strip u = T ∧ Stays σ' σ.n u := by
  have hz := fun σ' (hF : Frm σ σ' NoB) => wp_Good hO (ht.frm hF)
  have hw := fun σ' (hF : Frm σ σ' NoB) => wp_apply hO k σ' t T (hs.frm hF) (ht.frm hF) hT
  obtain ⟨p, cap, hc⟩ := ht.cells
  rw [hc] at hz hw ⊢
  refine WpF.of (T17_eq _ _ _ _ _ _ _) (hO _ (by decide) (by decide) (by decide)) ?_
  rw [T17]
  refine wp_newQ fun σ1 hF1 hn1 hS1 => ?_
  refine wp_newQ fun σ2 hF2 hn2 hS2 => ?_
  have hS1 := hF2.stN hS1
  have hF02 := hF1.seq hF2
  rw [wp_ldAll hS1 4 rfl]
  simp only [asAgg_agg, asCons_cons, asInt_int, asStr_str, asSlice_slice, asNil_nil]
  rw [wp_call]
  refine WpF.mono (hz σ2 hF02) ?_
  rintro _ σ3 ⟨rfl, hF3⟩
  have hF03 := hF02.seq hF3
  rw [asBool_bool, wp_bif, hg, if_neg (by simp), wp_ldAll (hF3.stN hS1) 4 rfl]
  simp only [asAgg_agg, asCons_cons, asInt_int, asStr_str, asSlice_slice, asNil_nil]
  rw [wp_call]
  refine WpF.mono (hw σ3 hF03) ?_
  rintro _ σ4 ⟨hF4, cs', rfl, hV⟩
  obtain ⟨_, e2, p2, c2, rfl⟩ := (hV 0).cells
  simp only [asAgg_agg, asCons_cons, asInt_int, asStr_str, asSlice_slice, asNil_nil]
  have hn3 := hF3.n
  have hn4 := hF4.n
  refine wp_stQ (hF4.stN (hF3.stN hS2)) rfl rfl fun σ5 hF5 hn5 hS5 => ?_
  rw [wp_ldAll hS5 4 rfl, wp_ret]
  obtain ⟨u, h1, h2, h3⟩ := full_TK (σ := σ5) (Y := fun j => j < σ3.n) _ T _ (Nat.le_refl _) hN fun n => (hV n).step hF5 (fun i hi h => by omega) (fun i hi h => h)
  refine ⟨_, rfl, (hF03.seq hF4).fresh hF5 fun i hi h => by omega, u, by rw [h1], h2, fun σ' Z hF hZ => h3 σ' Z hF fun j hj h => ?_⟩
  have := hZ j hj h
  omega
end

/-- Unify goes on. -/
theorem unify_goes {S : SubL} {x y : AT} (hS : Inv S) (hN : ∀ p ∈ S, NA p.2) (hx : goodM x = true → NA x) (hy : goodM y = true → NA y) : Inv (unifyM S x y).2 ∧ (∀ p ∈ (unifyM S x y).2, NA p.2) ∧ Ext S (unifyM S x y).2 ∧ ((unifyM S x y).1 = 0 → goodM x = true ∧ goodM y = true ∧ ap (unifyM S x y).2 x = ap (unifyM S x y).2 y) := by
  refine ⟨unifyM_inv hS, ?_⟩
  by_cases h : (unifyM S x y).1 = 0
  · have hg : (goodM x && goodM y) = true := by
      cases hg : (goodM x && goodM y) with
      | true => rfl
      | false =>
        unfold unifyM at h
        rw [hg] at h
        simp at h
    have hgg := hg
    rw [Bool.and_eq_true] at hgg
    have hone : ∃ S', oneM UF S x y = some (0, S') ∧ (unifyM S x y).2 = S' := by
      unfold unifyM at h ⊢
      rw [hg] at h ⊢
      simp only [cond_true] at h ⊢
      obtain ⟨e, S', h1, h2, _⟩ := one_uf hS (ok_good hgg.1) (ok_good hgg.2)
      rw [h1] at h ⊢
      simp only at h ⊢
      by_cases he : e = 0
      · subst he
        simp only [decide_true, cond_true] at h ⊢
        obtain ⟨w, hw⟩ := allSmall_uf h2
        rw [hw] at h ⊢
        cases w with
        | true => exact ⟨S', rfl, rfl⟩
        | false => simp at h
      · rw [decide_eq_false he] at h
        simp only [cond_false] at h
        exact absurd h he
    obtain ⟨S', h1, h2⟩ := hone
    rw [h2]
    obtain ⟨q1, q2, q3⟩ := one_succ UF S x y 0 S' hS (ok_good hgg.1) (ok_good hgg.2) h1
    exact ⟨oneM_pres (P := NA) (fun t ht u hu => ht.arg hu) NA.varT UF S x y 0 S' hN (hx hgg.1) (hy hgg.2) h1, q2, fun _ => ⟨hgg.1, hgg.2, q3 rfl⟩⟩
  · rw [unify_fail hS h]
    exact ⟨hN, Ext.refl _, fun h' => absurd h' h⟩
end Go.Pg
