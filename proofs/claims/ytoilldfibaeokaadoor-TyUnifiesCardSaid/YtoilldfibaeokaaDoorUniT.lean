/- Layer 5: what variables stand for has no circles; what is computed of it is defined. -/
import Derived.Test.YtoilldfibaeokaaDoorUniP
import Derived.Test.YtoilldfibaeokaaDoorTyR
namespace Go.Pg
open Go.Proofs

mutual
def occM (v : Int) : AT → Prop
  | .mk d l => (d.1.kind = 7 ∧ d.1.var = v) ∨ occL v l
def occL (v : Int) : List AT → Prop
  | [] => False
  | a :: l => occM v a ∨ occL v l
end
theorem occL_mem {v : Int} : ∀ {l : List AT} {a : AT}, a ∈ l → occM v a → occL v l
  | b :: l, a, ha, h => by
    rw [occL]
    rcases List.mem_cons.1 ha with rfl | ha
    · exact .inl h
    · exact .inr (occL_mem ha h)
theorem occL_ex {v : Int} : ∀ {l : List AT}, occL v l → ∃ a ∈ l, occM v a
  | [], h => by rw [occL] at h; exact h.elim
  | b :: l, h => by
    rw [occL] at h
    rcases h with h | h
    · exact ⟨b, by simp, h⟩
    · obtain ⟨a, h1, h2⟩ := occL_ex h
      exact ⟨a, by simp [h1], h2⟩
theorem occ_arg {v : Int} {t a : AT} (ha : a ∈ t.args) (h : occM v a) : occM v t := by
  cases t
  rw [occM]
  exact .inr (occL_mem ha h)
theorem occ_self {t : AT} (h : t.k = 7) : occM t.v t := by
  cases t
  rw [occM]
  exact .inl ⟨h, rfl⟩

structure Ok (t : AT) : Prop where
  al : aloneM t = true
  le : cntM t ≤ 500
theorem aloneL_mem : ∀ {l : List AT}, aloneL l = true → ∀ a ∈ l, aloneM a = true
  | b :: l, h, a, ha => by
    rw [aloneL, Bool.and_eq_true] at h
    rcases List.mem_cons.1 ha with rfl | ha
    · exact h.1
    · exact aloneL_mem h.2 a ha
theorem cntL_mem : ∀ {l : List AT} {a : AT}, a ∈ l → cntM a ≤ cntL l
  | b :: l, a, ha => by
    rw [cntL]
    have h1 := cntM_pos b
    have h2 := cntL_pos l
    rcases List.mem_cons.1 ha with rfl | ha
    · omega
    · have := cntL_mem ha
      omega
theorem cnt_eq (t : AT) : cntM t = cntL t.args + 1 := by
  cases t
  rw [cntM]
  rfl
theorem Ok.arg {t a : AT} (h : Ok t) (ha : a ∈ t.args) : Ok a ∧ cntM a < cntM t := by
  have h1 := h.al
  rw [aloneM_eq, Bool.and_eq_true] at h1
  have h2 := cntL_mem ha
  have h3 := h.le
  have h4 := cnt_eq t
  exact ⟨⟨aloneL_mem h1.2 a ha, by omega⟩, by omega⟩
theorem Ok.var {t : AT} (h : Ok t) : 0 ≤ t.v ∧ t.v ≤ 1999 := by
  have h1 := h.al
  rw [aloneM_eq] at h1
  simp only [Bool.and_eq_true, decide_eq_true_eq] at h1
  exact h1.1.2.1
theorem Ok.len {t : AT} (h : Ok t) : (t.args.length : Int) = argsM t.k := by
  have h1 := h.al
  rw [aloneM_eq] at h1
  simp only [Bool.and_eq_true, decide_eq_true_eq] at h1
  exact h1.1.1.1.2
theorem Ok.varT {n : Int} (h : 0 ≤ n ∧ n ≤ 1999) : Ok (varT n) := by
  refine ⟨?_, ?_⟩
  · unfold Go.Pg.varT
    rw [aloneM]
    simp only [List.length_nil, aloneL, Bool.and_true]
    have h0 : decide (0 ≤ n) = true := decide_eq_true h.1
    have h1 : decide (n ≤ 1999) = true := decide_eq_true h.2
    rw [h0, h1]
    simp
    decide
  · unfold Go.Pg.varT
    rw [cntM, cntL]
    decide

/-! ### an order of the variables that stand for something -/
def Ord (S : SubL) : List Int → Prop
  | [] => True
  | w :: L => ((lookS S w).isSome = true ∧ ∀ x, lookS S w = some x → ∀ z, occM z x → (lookS S z).isSome = true → z ∈ L) ∧ Ord S L
def Low (S : SubL) (L : List Int) (t : AT) : Prop := ∀ z, occM z t → (lookS S z).isSome = true → z ∈ L
theorem Low.arg {S : SubL} {L : List Int} {t a : AT} (h : Low S L t) (ha : a ∈ t.args) : Low S L a := fun z hz => h z (occ_arg ha hz)
structure Inv (S : SubL) : Prop where
  ok : ∀ p ∈ S, Ok p.2
  keys : (S.map (·.1)).Nodup
  rng : ∀ p ∈ S, 0 ≤ p.1 ∧ p.1 ≤ 1999
  ord : ∃ L, Ord S L ∧ (∀ z, (lookS S z).isSome = true → z ∈ L) ∧ L.length ≤ S.length

section
variable {S : SubL}
theorem Ord.split {v : Int} : ∀ {L : List Int}, Ord S L → v ∈ L → ∃ L2, L2.length < L.length ∧ Ord S L2 ∧ ∀ x, lookS S v = some x → Low S L2 x
  | w :: L, ⟨⟨_, h⟩, hL⟩, hv => by
    rcases List.mem_cons.1 hv with rfl | hv
    · exact ⟨L, by simp, hL, fun x hx z hz hb => h x hx z hz hb⟩
    · obtain ⟨L2, h1, h2, h3⟩ := Ord.split hL hv
      exact ⟨L2, by simp; omega, h2, h3⟩

theorem head_tot (hS : ∀ p ∈ S, Ok p.2) : ∀ (n : Nat) (L : List Int) (t : AT), L.length ≤ n → Ord S L → Low S L t → Ok t → ∀ k, n < k →
    ∃ h, headM k S t = some h ∧ Ok h ∧ (h.k = 7 → lookS S h.v = none) ∧ (h = t ∨ ∃ L', L'.length < L.length ∧ Ord S L' ∧ Low S L' h) := by
  intro n
  induction n with
  | zero =>
    intro L t hn hL hlow ht k hk
    obtain ⟨k, rfl⟩ : ∃ k', k = k' + 1 := ⟨k - 1, by omega⟩
    unfold headM
    by_cases h7 : t.k = 7
    · rw [if_pos h7]
      cases hx : lookS S t.v with
      | none => exact ⟨t, rfl, ht, fun _ => hx, .inl rfl⟩
      | some x =>
        have := hlow t.v (occ_self h7) (by rw [hx]; rfl)
        rw [List.length_eq_zero_iff.1 (Nat.le_zero.1 hn)] at this
        cases this
    · rw [if_neg h7]
      exact ⟨t, rfl, ht, fun h => absurd h h7, .inl rfl⟩
  | succ n ih =>
    intro L t hn hL hlow ht k hk
    obtain ⟨k, rfl⟩ : ∃ k', k = k' + 1 := ⟨k - 1, by omega⟩
    unfold headM
    by_cases h7 : t.k = 7
    · rw [if_pos h7]
      cases hx : lookS S t.v with
      | none => exact ⟨t, rfl, ht, fun _ => hx, .inl rfl⟩
      | some x =>
        have hm := hlow t.v (occ_self h7) (by rw [hx]; rfl)
        obtain ⟨L2, h1, h2, h3⟩ := hL.split hm
        obtain ⟨h, q1, q2, q3, q4⟩ := ih L2 x (by omega) h2 (h3 x hx) (hS _ (lookS_mem hx)) k (by omega)
        refine ⟨h, q1, q2, q3, .inr ?_⟩
        rcases q4 with rfl | ⟨L', r1, r2, r3⟩
        · exact ⟨L2, h1, h2, h3 _ hx⟩
        · exact ⟨L', by omega, r2, r3⟩
    · rw [if_neg h7]
      exact ⟨t, rfl, ht, fun h => absurd h h7, .inl rfl⟩
theorem head_mono : ∀ {k : Nat} {t h : AT}, headM k S t = some h → headM (k + 1) S t = some h
  | 0, _, _, h => by cases h
  | k + 1, t, h, e => by
    unfold headM at e ⊢
    by_cases h7 : t.k = 7
    · rw [if_pos h7] at e ⊢
      cases hx : lookS S t.v with
      | none =>
        rw [hx] at e
        exact e
      | some x =>
        rw [hx] at e
        exact head_mono e
    · rw [if_neg h7] at e ⊢
      exact e
theorem head_le {k k' : Nat} {t h : AT} (e : headM k S t = some h) (hk : k ≤ k') : headM k' S t = some h := by
  obtain ⟨d, rfl⟩ := Nat.exists_eq_add_of_le hk
  induction d with
  | zero => exact e
  | succ d ih => exact head_mono (ih (by omega))

/-! ### how large it is -/
def aszL (f : AT → Option Int) : List AT → Option Int
  | [] => some 1
  | a :: l => match f a with
    | none => none
    | some m => match aszL f l with
      | none => none
      | some r => some (m + r)
def aszM : Nat → SubL → AT → Option Int
  | 0, _, _ => none
  | k + 1, S, t => match headM k S t with
    | none => none
    | some h => aszL (aszM k S) h.args
theorem aszL_pos {f : AT → Option Int} (hf : ∀ a m, f a = some m → 1 ≤ m) : ∀ {l : List AT} {r : Int}, aszL f l = some r → 1 ≤ r
  | [], r, h => by cases h; decide
  | a :: l, r, h => by
    unfold aszL at h
    split at h
    · cases h
    · rename_i m hm
      split at h
      · cases h
      · rename_i q hq
        cases h
        have := hf a m hm
        have := aszL_pos hf hq
        omega
theorem asz_pos : ∀ {k : Nat} {t : AT} {m : Int}, aszM k S t = some m → 1 ≤ m
  | 0, _, _, h => by cases h
  | k + 1, t, m, h => by
    unfold aszM at h
    split at h
    · cases h
    · exact aszL_pos (fun a m h => asz_pos h) h
theorem aszL_tot {f : AT → Option Int} : ∀ {l : List AT}, (∀ a ∈ l, ∃ m, f a = some m) → ∃ r, aszL f l = some r
  | [], _ => ⟨1, rfl⟩
  | a :: l, h => by
    obtain ⟨m, hm⟩ := h a (by simp)
    obtain ⟨r, hr⟩ := aszL_tot (l := l) fun b hb => h b (by simp [hb])
    exact ⟨m + r, by simp only [aszL, hm, hr]⟩
theorem aszL_mem {f : AT → Option Int} (hf : ∀ a m, f a = some m → 1 ≤ m) : ∀ {l : List AT} {r : Int} {a : AT}, aszL f l = some r → a ∈ l → ∃ m, f a = some m ∧ m < r
  | b :: l, r, a, h, ha => by
    unfold aszL at h
    split at h
    · cases h
    · rename_i m hm
      split at h
      · cases h
      · rename_i q hq
        cases h
        have h1 := hf b m hm
        have h2 := aszL_pos hf hq
        rcases List.mem_cons.1 ha with rfl | ha
        · exact ⟨m, hm, by omega⟩
        · obtain ⟨m', q1, q2⟩ := aszL_mem hf hq ha
          exact ⟨m', q1, by omega⟩
theorem aszL_mono {f g : AT → Option Int} (h : ∀ a m, f a = some m → g a = some m) : ∀ {l : List AT} {r : Int}, aszL f l = some r → aszL g l = some r
  | [], _, e => e
  | a :: l, r, e => by
    unfold aszL at e ⊢
    split at e
    · cases e
    · rename_i m hm
      split at e
      · cases e
      · rename_i q hq
        rw [h a m hm, aszL_mono h hq]
        exact e
theorem asz_mono : ∀ {k : Nat} {t : AT} {m : Int}, aszM k S t = some m → aszM (k + 1) S t = some m
  | 0, _, _, h => by cases h
  | k + 1, t, m, h => by
    unfold aszM at h ⊢
    split at h
    · cases h
    · rename_i x hx
      rw [head_mono hx]
      exact aszL_mono (fun a m h => asz_mono h) h
theorem asz_le {k k' : Nat} {t : AT} {m : Int} (e : aszM k S t = some m) (hk : k ≤ k') : aszM k' S t = some m := by
  obtain ⟨d, rfl⟩ := Nat.exists_eq_add_of_le hk
  induction d with
  | zero => exact e
  | succ d ih => exact asz_mono (ih (by omega))
theorem asz_arg {k : Nat} {t h a : AT} {m : Int} (e : aszM (k + 1) S t = some m) (hh : headM k S t = some h) (ha : a ∈ h.args) : ∃ m', aszM k S a = some m' ∧ m' < m := by
  unfold aszM at e
  rw [hh] at e
  exact aszL_mem (f := aszM k S) (fun a m h => asz_pos h) e ha
set_option maxRecDepth 100000 in
theorem asz_tot (hS : ∀ p ∈ S, Ok p.2) : ∀ (N : Nat) (L : List Int) (t : AT), L.length * 501 + (cntM t).toNat ≤ N → Ord S L → Low S L t → Ok t → ∀ k, N < k → ∃ m, aszM k S t = some m := by
  intro N
  induction N with
  | zero =>
    intro L t h
    have := cntM_pos t
    omega
  | succ N ih =>
    intro L t hN hL hlow ht k hk
    obtain ⟨k, rfl⟩ : ∃ k', k = k' + 1 := ⟨k - 1, by omega⟩
    have hcp := cntM_pos t
    obtain ⟨h, h1, h2, h3, h4⟩ := head_tot hS L.length L t (Nat.le_refl _) hL hlow ht k (by omega)
    unfold aszM
    rw [h1]
    refine aszL_tot fun a ha => ?_
    obtain ⟨g1, g2⟩ := h2.arg ha
    have hle := h2.le
    have hap := cntM_pos a
    rcases h4 with rfl | ⟨L', r1, r2, r3⟩
    · exact ih L a (by omega) hL (hlow.arg ha) g1 k (by omega)
    · have : (L'.length + 1) * 501 ≤ L.length * 501 := Nat.mul_le_mul_right 501 r1
      rw [Nat.add_mul] at this
      exact ih L' a (by omega) r2 (r3.arg ha) g1 k (by omega)

theorem size_fold {k : Nat} (hsz : ∀ a m n, aszM k S a = some m → 0 ≤ n → n ≤ 501 → sizeM k S a n = some (min (n + m) 501)) : ∀ (l : List AT) (r n : Int), aszL (aszM k S) l = some r → 0 ≤ n → n ≤ 502 →
    ∃ q, l.foldl (fun acc a => match acc with
      | none => none
      | some m => if m > 500 then some m else sizeM k S a m) (some n) = some q ∧ min q 501 = min (n + (r - 1)) 501 ∧ 0 ≤ q ∧ q ≤ 502
  | [], r, n, h, h0, h1 => by
    cases h
    exact ⟨n, rfl, by congr 1; omega, h0, h1⟩
  | a :: l, r, n, h, h0, h1 => by
    unfold aszL at h
    split at h
    · cases h
    · rename_i m hm
      split at h
      · cases h
      · rename_i q hq
        cases h
        have hp1 := asz_pos hm
        have hp2 := aszL_pos (fun a m h => asz_pos h) hq
        rw [List.foldl_cons]
        by_cases h5 : n > 500
        · simp only [if_pos h5]
          obtain ⟨z, z1, z2, z3⟩ := size_fold hsz l q n hq h0 h1
          exact ⟨z, z1, by omega, z3⟩
        · simp only [if_neg h5, hsz a m n hm h0 (by omega)]
          obtain ⟨z, z1, z2, z3⟩ := size_fold hsz l q (min (n + m) 501) hq (by omega) (by omega)
          exact ⟨z, z1, by omega, z3⟩
theorem size_asz : ∀ (k : Nat) (t : AT) (m n : Int), aszM k S t = some m → 0 ≤ n → n ≤ 501 → sizeM k S t n = some (min (n + m) 501)
  | 0, _, _, _, h, _, _ => by cases h
  | k + 1, t, m, n, h, h0, h1 => by
    unfold aszM at h
    unfold sizeM
    split at h
    · cases h
    · rename_i x hx
      obtain ⟨q, q1, q2, q3, q4⟩ := size_fold (fun a m n => size_asz k a m n) x.args m (n + 1) h (by omega) (by omega)
      rw [hx]
      refine (congrArg (Option.map (minV · 501)) q1).trans ?_
      simp only [Option.map_some, minV_eq]
      congr 1
      omega
theorem small_asz {k : Nat} {t : AT} {m : Int} (h : aszM k S t = some m) : smallM k S t = some (decide (m ≤ 500)) := by
  have := asz_pos h
  unfold smallM
  rw [size_asz k t m 0 h (by omega) (by omega), Option.map_some]
  congr 1
  by_cases h5 : m ≤ 500
  · rw [decide_eq_true h5, decide_eq_true (by omega)]
  · rw [decide_eq_false h5, decide_eq_false (by omega)]
end
end Go.Pg
