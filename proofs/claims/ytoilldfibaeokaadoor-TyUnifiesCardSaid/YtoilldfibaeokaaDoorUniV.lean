/- Layer 5: one is defined. -/
import Derived.Test.YtoilldfibaeokaaDoorUniU
namespace Go.Pg
open Go.Proofs

/-- Numbers that are unlike, below n, are no more than n. -/
theorem nodup_bnd : ∀ (n : Nat) (l : List Int), l.Nodup → (∀ z ∈ l, 0 ≤ z ∧ z < (n : Int)) → l.length ≤ n
  | 0, l, _, h => by
    cases l with
    | nil => simp
    | cons a l =>
      have := h a (by simp)
      omega
  | n + 1, l, hd, h => by
    have h1 := nodup_bnd n (l.erase (n : Int)) (hd.erase _) fun z hz => by
      have hz' := (List.Nodup.mem_erase_iff hd).1 hz
      have := h z hz'.2
      have := hz'.1
      omega
    have h2 : l.length ≤ (l.erase (n : Int)).length + 1 := by
      rw [List.length_erase]
      split <;> omega
    omega
theorem Inv.len {S : SubL} (h : Inv S) : S.length ≤ 2000 := by
  have := nodup_bnd 2000 (S.map (·.1)) h.keys fun z hz => by
    obtain ⟨p, hp, rfl⟩ := List.mem_map.1 hz
    have := h.rng p hp
    omega
  simpa using this
abbrev CF : Nat := 1003000
theorem Inv.low {S : SubL} (h : Inv S) : ∃ L, Ord S L ∧ L.length ≤ 2000 ∧ ∀ t, Low S L t := by
  obtain ⟨L, h1, h2, h3⟩ := h.ord
  exact ⟨L, h1, Nat.le_trans h3 h.len, fun t z _ hb => h2 z hb⟩
theorem Inv.asz {S : SubL} (h : Inv S) {t : AT} (ht : Ok t) : ∃ m, aszM CF S t = some m := by
  obtain ⟨L, h1, h2, h3⟩ := h.low
  have := ht.le
  have h5 : L.length * 501 ≤ 2000 * 501 := Nat.mul_le_mul_right 501 h2
  exact asz_tot h.ok (L.length * 501 + (cntM t).toNat) L t (Nat.le_refl _) h1 (h3 t) ht CF (by
    have : (cntM t).toNat ≤ 500 := by omega
    simp only [CF]
    omega)
theorem Inv.head {S : SubL} (h : Inv S) {t : AT} (ht : Ok t) {k : Nat} (hk : 2000 < k) : ∃ x, headM k S t = some x ∧ Ok x ∧ (x.k = 7 → lookS S x.v = none) := by
  obtain ⟨L, h1, h2, h3⟩ := h.low
  obtain ⟨x, q1, q2, q3, _⟩ := head_tot h.ok 2000 L t h2 h1 (h3 t) ht k hk
  exact ⟨x, q1, q2, q3⟩
theorem Inv.within {S : SubL} (h : Inv S) {t : AT} (ht : Ok t) (v : Int) {k : Nat} (hk : CF ≤ k) : ∃ r, withinM k S v t [] = some r := by
  obtain ⟨L, h1, h2, h3⟩ := h.low
  have := ht.le
  have h5 : L.length * 501 ≤ 2000 * 501 := Nat.mul_le_mul_right 501 h2
  exact within_tot h.ok v (L.length * 501 + (cntM t).toNat) L t (Nat.le_refl _) h1 (h3 t) ht k (by
    have : (cntM t).toNat ≤ 500 := by omega
    simp only [CF] at hk
    omega) []
theorem Inv.small {S : SubL} (h : Inv S) {t : AT} (ht : Ok t) {k : Nat} (hk : CF ≤ k) : ∃ b, smallM k S t = some b := by
  obtain ⟨m, hm⟩ := h.asz ht
  exact ⟨_, small_asz (asz_le hm hk)⟩
theorem Inv.nil : Inv [] := ⟨(fun p h => by cases h), List.nodup_nil, (fun p h => by cases h), [], trivial, (fun z h => by cases h), Nat.le_refl _⟩

/-- What is kept, and that it goes on. -/
def Goes (S S' : SubL) : Prop := Inv S' ∧ (S' = S ∨ S.length < S'.length)
theorem bind_tot {S : SubL} (hS : Inv S) {v : Int} {t : AT} (hv : lookS S v = none) (hr : 0 ≤ v ∧ v ≤ 1999) (ht : Ok t) {k : Nat} (hk : CF ≤ k) : ∃ e S', bindM k S v t = some (e, S') ∧ Goes S S' := by
  obtain ⟨⟨b, sn⟩, hw⟩ := hS.within ht v hk
  unfold bindM
  rw [hw]
  cases b with
  | true => exact ⟨5, S, rfl, hS, .inl rfl⟩
  | false =>
    obtain ⟨q1, q2⟩ := hS.bind hv hr ht (not_reach hS.ok ht hw)
    exact ⟨0, _, rfl, q1, .inr (by omega)⟩
theorem pairs_tot {k : Nat} {S : SubL} {mx : Int} (f : ∀ S1 a b, Inv S1 → (S1 = S ∨ S.length < S1.length) → Ok a → (∃ ma, aszM CF S a = some ma ∧ ma < mx) → Ok b → ∃ e S', oneM k S1 a b = some (e, S') ∧ Goes S1 S') :
    ∀ (l m : List AT) (S1 : SubL), Inv S1 → (S1 = S ∨ S.length < S1.length) → (∀ a ∈ l, Ok a ∧ ∃ ma, aszM CF S a = some ma ∧ ma < mx) → (∀ b ∈ m, Ok b) → l.length = m.length → ∃ e S', pairsM (oneM k) S1 l m = some (e, S') ∧ Inv S' ∧ (S' = S ∨ S.length < S'.length)
  | [], m, S1, h1, h2, _, _, _ => ⟨0, S1, by unfold pairsM; rfl, h1, h2⟩
  | a :: l, [], _, _, _, _, _, h => by simp at h
  | a :: l, b :: m, S1, h1, h2, hl, hm, h => by
    obtain ⟨e, S2, q1, q2, q3⟩ := f S1 a b h1 h2 (hl a (by simp)).1 (hl a (by simp)).2 (hm b (by simp))
    have h3 : S2 = S ∨ S.length < S2.length := by
      rcases q3 with rfl | q3
      · exact h2
      · rcases h2 with rfl | h2
        · exact .inr q3
        · exact .inr (by omega)
    unfold pairsM
    rw [q1]
    simp only
    by_cases he : e = 0
    · rw [if_pos he]
      exact pairs_tot f l m S2 q2 h3 (fun x hx => hl x (by simp [hx])) (fun x hx => hm x (by simp [hx])) (by simpa using h)
    · rw [if_neg he]
      exact ⟨e, S2, rfl, q2, h3⟩

set_option maxRecDepth 100000 in
theorem one_tot : ∀ (N : Nat) (S : SubL) (x y : AT), Inv S → Ok x → Ok y → (∀ m, aszM CF S x = some m → (2000 - S.length) * 502 + (min m 501).toNat ≤ N) → ∀ k, N + CF < k → ∃ e S', oneM k S x y = some (e, S') ∧ Goes S S' := by
  intro N
  induction N with
  | zero =>
    intro S x y hS hx hy hN
    obtain ⟨m, hm⟩ := hS.asz hx
    have := hN m hm
    have := asz_pos hm
    omega
  | succ N ih =>
    intro S x y hS hx hy hN k hk
    obtain ⟨k, rfl⟩ : ∃ k', k = k' + 1 := ⟨k - 1, by omega⟩
    have hkC : CF ≤ k := by omega
    have hk2 : 2000 < k := by
      have : 2000 < CF := by decide
      omega
    obtain ⟨mx, hmx⟩ := hS.asz hx
    obtain ⟨my, hmy⟩ := hS.asz hy
    have hN := hN mx hmx
    obtain ⟨X, hX, hXo, hXu⟩ := hS.head hx hk2
    obtain ⟨Y, hY, hYo, hYu⟩ := hS.head hy hk2
    unfold oneM
    rw [small_asz (asz_le hmx hkC), small_asz (asz_le hmy hkC), hX, hY]
    by_cases h5 : mx ≤ 500
    case neg =>
      rw [decide_eq_false h5]
      exact ⟨2, S, rfl, hS, .inl rfl⟩
    rw [decide_eq_true h5]
    simp only
    by_cases h5' : my ≤ 500
    case neg =>
      rw [decide_eq_false h5']
      exact ⟨2, S, rfl, hS, .inl rfl⟩
    rw [decide_eq_true h5']
    simp only
    by_cases hx7 : X.k = 7
    · rw [if_pos hx7]
      by_cases hy7 : Y.k = 7
      · rw [if_pos hy7]
        by_cases hv : X.v = Y.v
        · rw [if_pos hv]
          exact ⟨0, S, rfl, hS, .inl rfl⟩
        · rw [if_neg hv]
          have rx := hXo.var
          have ry := hYo.var
          have ux := hXu hx7
          have uy := hYu hy7
          have hmax : maxV X.v Y.v = X.v ∧ minV X.v Y.v = Y.v ∨ maxV X.v Y.v = Y.v ∧ minV X.v Y.v = X.v := by
            rw [maxV_eq, minV_eq]
            omega
          have nr : ∀ a b : Int, a ≠ b → lookS S b = none → ¬ Reach S (varT b) a := fun a b hab hb r => by
            have hoc : ∀ w, occM w (varT b) → w = b := fun w hw => by
              unfold varT at hw
              rw [occM] at hw
              rcases hw with ⟨_, h⟩ | h
              · exact h.symm
              · exact absurd h occL_nil
            cases r with
            | here h => exact hab (hoc _ h)
            | step h hz _ =>
              rw [hoc _ h, hb] at hz
              cases hz
          rcases hmax with ⟨e1, e2⟩ | ⟨e1, e2⟩
          · rw [e1, e2]
            obtain ⟨q1, q2⟩ := hS.bind ux rx (Ok.varT ry) (nr _ _ hv uy)
            exact ⟨0, _, rfl, q1, .inr (by omega)⟩
          · rw [e1, e2]
            obtain ⟨q1, q2⟩ := hS.bind uy ry (Ok.varT rx) (nr _ _ (fun e => hv e.symm) ux)
            exact ⟨0, _, rfl, q1, .inr (by omega)⟩
      · rw [if_neg hy7]
        exact bind_tot hS (hXu hx7) hXo.var hYo hkC
    rw [if_neg hx7]
    by_cases hy7 : Y.k = 7
    · rw [if_pos hy7]
      exact bind_tot hS (hYu hy7) hYo.var hXo hkC
    rw [if_neg hy7]
    by_cases hkk : X.k = Y.k
    case neg =>
      rw [if_neg hkk]
      exact ⟨5, S, rfl, hS, .inl rfl⟩
    rw [if_pos hkk]
    by_cases hnn : X.nm.toList = Y.nm.toList
    case neg =>
      rw [if_neg hnn]
      exact ⟨5, S, rfl, hS, .inl rfl⟩
    rw [if_pos hnn]
    have hSl := hS.len
    refine pairs_tot (mx := mx) (fun S1 a b g1 g2 g3 g4 g5 => ih S1 a b g1 g3 g5 (fun m hm => ?_) k (by omega)) X.args Y.args S hS (.inl rfl) (fun a ha => ⟨(hXo.arg ha).1, ?_⟩) (fun b hb => (hYo.arg hb).1) ?_
    · obtain ⟨ma, e1, e2⟩ := g4
      have p1 := asz_pos hm
      have p2 := asz_pos hmx
      have := g1.len
      rcases g2 with rfl | g2
      · rw [e1] at hm
        cases hm
        omega
      · have : (2000 - S1.length + 1) * 502 ≤ (2000 - S.length) * 502 := Nat.mul_le_mul_right 502 (by omega)
        rw [Nat.add_mul] at this
        omega
    · have hC : CF = 1002999 + 1 := rfl
      rw [hC] at hmx
      obtain ⟨X', hX', _, _⟩ := hS.head hx (k := 1002999) (by decide)
      have : X' = X := by
        have h1 := head_le hX' (show 1002999 ≤ k by omega)
        rw [hX] at h1
        exact (Option.some.inj h1).symm
      subst this
      obtain ⟨ma, e1, e2⟩ := asz_arg hmx hX' ha
      exact ⟨ma, asz_le e1 (by decide), e2⟩
    · have h1 := hXo.len
      have h2 := hYo.len
      rw [hkk] at h1
      omega
set_option maxRecDepth 100000 in
/-- One, of what stands in a good sub. -/
theorem one_uf {S : SubL} {x y : AT} (hS : Inv S) (hx : Ok x) (hy : Ok y) : ∃ e S', oneM UF S x y = some (e, S') ∧ Goes S S' := by
  refine one_tot 1004600 S x y hS hx hy (fun m hm => ?_) UF (by decide)
  have : (2000 - S.length) * 502 ≤ 2000 * 502 := Nat.mul_le_mul_right 502 (by omega)
  omega
set_option maxRecDepth 100000 in
theorem allSmall_uf {S : SubL} (hS : Inv S) : ∃ b, allSmall UF S S = some b := by
  have key : ∀ l : SubL, (∀ p ∈ l, 0 ≤ p.1 ∧ p.1 ≤ 1999) → ∃ b, allSmall UF S l = some b := by
    intro l
    induction l with
    | nil => intro _; exact ⟨true, rfl⟩
    | cons p l ih =>
      intro h
      obtain ⟨b, hb⟩ := ih fun q hq => h q (by simp [hq])
      obtain ⟨c, hc⟩ := hS.small (Ok.varT (h p (by simp))) (k := UF) (by decide)
      refine ⟨c && b, ?_⟩
      unfold allSmall
      simp only [hc, hb]
  exact key S hS.rng
end Go.Pg
