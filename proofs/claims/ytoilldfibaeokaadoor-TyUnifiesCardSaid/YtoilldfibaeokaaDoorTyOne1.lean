/- Layer 5: the law TyOne: what it makes one, pair behind pair. -/
import Derived.Test.YtoilldfibaeokaaDoorUniF
namespace Go.Pg
open Go.Proofs Go.Lib

/-- An element of a row, read whole, which can be read again. -/
theorem wp_rowOfB {P : Program} {ov : Ov} {β : Type} {σ σ1 : AHeap} {Y : Nat → Prop} {c : Nat} {R : List Value → β → Prop} {p : Option Addr} {ts : List β} (h : RowOf σ1 Y c R p ts) (hF : Frm σ1 σ NoB) {i n : Nat} (hi : i < ts.length) (hn : n = ts.length) {f : Addr → Value → Pg} {Q : Post}
    (k : ∀ x cs, R cs ts[i] → (∀ σ', Frm σ1 σ' NoB → ldN c (aadd x (i * c)) σ' = some (.agg cs.toArray, σ')) → Wp P ov (f x (.agg cs.toArray)) σ Q) :
    Wp P ov (asSome p fun a => grd (decide (0 ≤ ((i : Nat) : Int)) && decide (((i : Nat) : Int) < ((n : Nat) : Int))) (.act (ldN c (aadd a (Int.toNat ((i : Nat) : Int) * c))) (f a))) σ Q := by
  subst hn
  obtain ⟨x, cs, rfl, h1, h2, h3⟩ := h i hi
  have e : (decide (0 ≤ ((i : Nat) : Int)) && decide (((i : Nat) : Int) < ((ts.length : Nat) : Int))) = true := by simp; omega
  have hl : ∀ σ', Frm σ1 σ' NoB → ldN c (aadd x (i * c)) σ' = some (.agg cs.toArray, σ') := fun σ' f => by
    unfold ldN
    rw [rdN_keep (S := NoB) f h1 (fun _ _ h => h.elim), h2]
  simp only [asSome_some]
  rw [wp_grd, e, Int.toNat_natCast, wp_act, hl σ hF]
  exact ⟨rfl, k x cs h3 hl⟩

abbrev flatC (ws : List AT) : List Value := (ws.map AT.c).flatten
theorem flatC_len {σ : AHeap} : ∀ {ws : List AT}, (∀ w ∈ ws, AFull σ w) → (flatC ws).length = ws.length * 4
  | [], _ => rfl
  | w :: ws, h => by
    obtain ⟨p, cap, hc⟩ := (h w (by simp)).cells
    show (w.c ++ flatC ws).length = _
    rw [List.length_append, flatC_len (ws := ws) fun u hu => h u (by simp [hu]), hc, List.length_cons]
    simp
    omega
theorem done_row {σ σ1 : AHeap} {b cap : Nat} {q : Option Addr} {ws : List AT} (h : SlE σ b q cap 4 (flatC ws)) (hf : ∀ w ∈ ws, AFull σ1 w) : RowOf σ NoB 4 (fun cs (w : AT) => cs = w.c) q ws := by
  refine SlE.rowOf h (fun _ h => h) (by decide) ⟨by simp, fun cs hcs => ?_, fun i h1 h2 => by simp⟩
  obtain ⟨w, hw, rfl⟩ := List.mem_map.1 hcs
  obtain ⟨p, cap, hc⟩ := (hf w hw).cells
  rw [hc]
  rfl

/-- Two by two, all one. -/
structure Pairs (S : SubL) (ws : List AT) : Prop where
  even : ws.length % 2 = 0
  one : ∀ k (h : 2 * k + 1 < ws.length), ap S (ws[2 * k]'(by omega)) = ap S ws[2 * k + 1]
theorem Pairs.nil (S : SubL) : Pairs S [] := ⟨rfl, fun k h => by simp at h⟩
theorem Pairs.ext {S S' : SubL} {ws : List AT} (h : Pairs S ws) (hS : Inv S) (hS' : Inv S') (he : Ext S S') (hw : ∀ w ∈ ws, Ok w) : Pairs S' ws :=
  ⟨h.even, fun k hk => ap_ref' hS hS' he (hw _ (List.getElem_mem _)) (hw _ (List.getElem_mem _)) (h.one k hk)⟩
theorem Pairs.snoc {S : SubL} {ws : List AT} {x y : AT} (h : Pairs S ws) (hxy : ap S x = ap S y) : Pairs S (ws ++ [x, y]) := by
  have he := h.even
  refine ⟨by simp; omega, fun k hk => ?_⟩
  simp only [List.length_append, List.length_cons, List.length_nil] at hk
  by_cases hk' : 2 * k + 1 < ws.length
  · rw [List.getElem_append_left (by omega), List.getElem_append_left hk']
    exact h.one k hk'
  · have : 2 * k = ws.length := by omega
    rw [List.getElem_append_right (by omega), List.getElem_append_right (by omega)]
    have e1 : 2 * k - ws.length = 0 := by omega
    have e2 : 2 * k + 1 - ws.length = 1 := by omega
    simp only [e1, e2, List.getElem_cons_zero, List.getElem_cons_succ]
    exact hxy

/-- What has been made one by then: the struct's block b1. -/
structure OneI (σB σ : AHeap) (b1 : Nat) (q : Option Addr) (cap : Nat) (ws : List AT) (S : SubL) : Prop where
  frm : Frm σB σ NoB
  inv : Inv S
  na : ∀ p ∈ S, NA p.2
  full : ∀ p ∈ S, AFull σB p.2
  good : ∀ w ∈ ws, AFull σB w ∧ goodM w = true ∧ NA w
  pairs : Pairs S ws
  heap : ∃ r b, SubW σ b1 r 0 S ∧ SlE σ b q cap 4 (flatC ws) ∧ (q ≠ none → σB.n ≤ b ∧ b ≠ b1 ∧ b ≠ r)
theorem OneI.step {σB σ σ' : AHeap} {b1 cap : Nat} {q : Option Addr} {ws : List AT} {S : SubL} (h : OneI σB σ b1 q cap ws S) (f : Frm σ σ' NoB) : OneI σB σ' b1 q cap ws S := by
  obtain ⟨r, b, h1, h2, h3⟩ := h.heap
  exact ⟨h.frm.seq f, h.inv, h.na, h.full, h.good, h.pairs, r, b, h1.frm f, h2.frm f fun _ h => h, h3⟩
theorem ones_c {σ : AHeap} {w : AT} (h : AFull σ w) : ∀ y ∈ w.c, one y = true := by
  obtain ⟨p, cap, hc⟩ := h.cells
  rw [hc]
  exact ones4 (e := none) rfl

section
variable {σB σ : AHeap} {b1 cap : Nat} {q : Option Addr} {ws : List AT} {S : SubL}
/-- Two are made one; what was made one is kept. -/
theorem OneI.unify (h : OneI σB σ b1 q cap ws S) (hb1 : σB.n ≤ b1) {x y : AT} (hx : AFull σB x) (hy : AFull σB y) (nx : goodM x = true → NA x) (ny : goodM y = true → NA y) (cx : cntM x ≤ 1000000) (cy : cntM y ≤ 1000000) :
    WpF PROG ovL 12 [.pointer (some ⟨b1, 0, some 0⟩), .agg x.c.toArray, .agg y.c.toArray] σ fun v σ' => v = .int .i64 (unifyM S x y).1 ∧ Frm σ σ' (· = b1) ∧ OneI σB σ' b1 q cap ws (unifyM S x y).2 ∧ ((unifyM S x y).1 = 0 → goodM x = true ∧ goodM y = true ∧ ap (unifyM S x y).2 x = ap (unifyM S x y).2 y) := by
  obtain ⟨r, b, h1, h2, h3⟩ := h.heap
  refine WpF.mono (wp_Unify (ov := ovL) rfl h1 h.inv (hx.frm h.frm) (hy.frm h.frm) cx cy) ?_
  rintro _ σ' ⟨rfl, hF, r', hW, hr⟩
  obtain ⟨g1, g2, g3, g4⟩ := unify_goes h.inv h.na nx ny
  have hlt := h1.st.1
  have hfull : ∀ p ∈ (unifyM S x y).2, AFull σB p.2 := by
    by_cases e0 : (unifyM S x y).1 = 0
    · obtain ⟨k1, k2, _⟩ := g4 e0
      have : ∃ S', oneM UF S x y = some (0, S') ∧ (unifyM S x y).2 = S' := by
        have h' := e0
        unfold unifyM at h' ⊢
        rw [k1, k2] at h' ⊢
        simp only [Bool.and_self, cond_true] at h' ⊢
        obtain ⟨e, S', q1, q2, _⟩ := one_uf h.inv (ok_good k1) (ok_good k2)
        rw [q1] at h' ⊢
        simp only at h' ⊢
        by_cases he : e = 0
        · subst he
          simp only [decide_true, cond_true] at h' ⊢
          obtain ⟨w, hw⟩ := allSmall_uf q2
          rw [hw] at h' ⊢
          cases w with
          | true => exact ⟨S', rfl, rfl⟩
          | false => simp at h'
        · rw [decide_eq_false he] at h'
          simp only [cond_false] at h'
          exact absurd h' he
      obtain ⟨S', q1, q2⟩ := this
      rw [q2]
      exact oneM_pres (P := AFull σB) (fun t ht u hu => ht.arg hu) (fun n => varT_full σB n) UF S x y 0 S' h.full hx hy q1
    · rw [unify_fail h.inv e0]
      exact h.full
  refine ⟨rfl, hF, ⟨h.frm.fresh hF fun i hi e => by omega, g1, g2, hfull, h.good, h.pairs.ext h.inv g1 g3 fun w hw => ok_good (h.good w hw).2.1, r', b, hW, h2.frm hF fun hq => (h3 hq).2.1, fun hq => ⟨(h3 hq).1, (h3 hq).2.1, ?_⟩⟩, g4⟩
  rcases hr with rfl | hr
  · exact (h3 hq).2.2
  · have := h2.lt hq
    omega
/-- They are put behind what was made one. -/
theorem OneI.append (h : OneI σB σ b1 q cap ws S) {x y : AT} (hx : AFull σB x ∧ goodM x = true ∧ NA x) (hy : AFull σB y ∧ goodM y = true ∧ NA y) (hxy : ap S x = ap S y) (hlen : ws.length ≤ 1000) {g : Option Addr → Nat → Nat → Pg} {Q : Post}
    (k : ∀ σ' q' cap', Frm σB σ' NoB → OneI σB σ' b1 q' cap' (ws ++ [x, y]) S → Wp PROG ovL (g q' (ws.length + 2) cap') σ' Q) :
    Wp PROG ovL (.act (bdSl 4 2 (x.c ++ y.c)) fun v => asSlice v fun p' n' c' => .act (apS 4 56 q ws.length cap p' n' c') fun w => asSlice w g) σ Q := by
  obtain ⟨r, b, h1, h2, h3⟩ := h.heap
  have hl := flatC_len fun w hw => (h.good w hw).1
  obtain ⟨xp, xc, hxc⟩ := hx.1.cells
  obtain ⟨yp, yc, hyc⟩ := hy.1.cells
  refine wp_apN h2 (by decide) (by decide) hl (fun v hv => (List.mem_append.1 hv).elim (ones_c hx.1 v) (ones_c hy.1 v)) (by rw [hxc, hyc]; rfl) (by omega) (by omega) fun σ' b' q' cap' hF hb' hR => ?_
  have hFB : Frm σB σ' NoB := h.frm.fresh hF fun i hi e => by have := (h3 e.1).1; omega
  have hst := hF.st h1.st fun e => (h3 e.1).2.1 e.2.symm
  have hrr : σ'.get r = σ.get r := hF.get r h1.lt fun e => (h3 e.1).2.2 e.2.symm
  have hn := hF.n
  have hlt1 := h1.st.1
  have hltr := h1.lt
  have hB := h.frm.n
  refine k σ' q' cap' hFB ⟨hFB, h.inv, h.na, h.full, ?_, h.pairs.snoc hxy, r, b', SubW.of hst (by omega) (by rw [hrr]; exact h1.map) (fun p hp => (h.full p hp).frm hFB), ?_, fun hq => ?_⟩
  · intro w hw
    rcases List.mem_append.1 hw with hw | hw
    · exact h.good w hw
    · simp only [List.mem_cons, List.mem_nil_iff, or_false] at hw
      rcases hw with rfl | rfl
      · exact hx
      · exact hy
  · have : flatC (ws ++ [x, y]) = flatC ws ++ (x.c ++ y.c) := by simp [flatC]
    rw [this]
    exact hR
  · rcases hb' with h | ⟨h4, rfl⟩ | h
    · exact absurd h hq
    · exact h3 h4
    · exact ⟨by omega, by omega, by omega⟩
end
end Go.Pg
