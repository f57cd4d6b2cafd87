/- Layer 12: the walk over what a collection keeps (plain); the map of what was seen. -/
import Derived.Test.YtndkndlfhmkkkaaLive1
namespace Go.Pg
open Go.Proofs

theorem sum_erase (f : Int → Nat) : ∀ (l : List Int) (x : Int), x ∈ l → (l.map f).sum = f x + ((l.erase x).map f).sum
  | [], x, h => by cases h
  | a :: l, x, h => by
    by_cases e : a = x
    · subst e
      simp
    · have hx : x ∈ l := by
        rcases List.mem_cons.1 h with rfl | h
        · exact absurd rfl e
        · exact h
      rw [List.erase_cons_tail (by simpa using e)]
      simp only [List.map_cons, List.sum_cons]
      rw [sum_erase f l x hx]
      omega
theorem sum_sub (f : Int → Nat) : ∀ (l1 l2 : List Int), l1.Nodup → (∀ x ∈ l1, x ∈ l2) → (l1.map f).sum ≤ (l2.map f).sum
  | [], l2, _, _ => by simp
  | a :: l1, l2, hn, h => by
    obtain ⟨h1, h2⟩ := List.nodup_cons.1 hn
    have := sum_sub f l1 (l2.erase a) h2 fun x hx => (List.mem_erase_of_ne (fun e => h1 (by rw [← e]; exact hx))).2 (h x (by simp [hx]))
    rw [List.map_cons, List.sum_cons, sum_erase f l2 a (h a (by simp))]
    omega

/-- What a word has become, in a map. -/
def imW (H : List Bool) (m : List (Int × Int)) (x : Int) : Int := if plB H x = true then (look m (atI x)).getD 0 else x
theorem Im.eq {H : List Bool} {m : List (Int × Int)} {x y : Int} (h : Im H m x y) : y = imW H m x := by
  unfold Im at h
  unfold imW
  by_cases hp : plB H x = true
  · rw [if_pos hp] at h ⊢
    rw [h]
    rfl
  · rw [if_neg hp] at h ⊢
    exact h
theorem Im.some {H : List Bool} {m : List (Int × Int)} {x y : Int} (h : Im H m x y) (hp : plB H x = true) : look m (atI x) = some y := by
  unfold Im at h
  rw [if_pos hp] at h
  exact h

/-- The walk: what is to be looked at, what was seen. -/
structure WInv (W : List Int) (H : List Bool) (m : List (Int × Int)) (rs : List Int) (j : Nat) (A : List Int) (K : List Int) : Prop where
  len : A.length = rs.length + (K.map fun k => szN W k.toNat).sum
  jle : j ≤ A.length
  bnd : ∀ a ∈ A, 0 ≤ a ∧ a < 18446744073709551616
  im : ∀ a ∈ A, plB H a = true → ∃ p, look m (atI a) = some p
  nd : K.Nodup
  key : ∀ k ∈ K, k ∈ m.map (·.1)
  proc : ∀ i (hi : i < A.length), i < j → plB H A[i] = true → atI A[i] ∈ K
  kw : ∀ k : Nat, (k : Int) ∈ K → ∀ c, c < szN W k → W.getD (k + 1 + c) 0 ∈ A
  rts : ∀ r ∈ rs, r ∈ A

section
variable {W : List Int} {H : List Bool} {m : List (Int × Int)} {rs : List Int} {j : Nat} {A K : List Int}

theorem WInv.start (h1 : ∀ a ∈ rs, 0 ≤ a ∧ a < 18446744073709551616) (h2 : ∀ a ∈ rs, plB H a = true → ∃ p, look m (atI a) = some p) : WInv W H m rs 0 rs [] :=
  ⟨by simp, by omega, h1, h2, List.nodup_nil, (fun k h => by cases h), (fun i _ h => by omega), (fun k h => by cases h), fun r h => h⟩

theorem WInv.skip (h : WInv W H m rs j A K) (hj : j < A.length) (hk : plB H A[j] = true → atI A[j] ∈ K) : WInv W H m rs (j + 1) A K := by
  refine ⟨h.len, hj, h.bnd, h.im, h.nd, h.key, fun i hi hij hp => ?_, h.kw, h.rts⟩
  by_cases e : i = j
  · subst e
    exact hk hp
  · exact h.proc i hi (by omega) hp

theorem WInv.see (h : WInv W H m rs j A K) (hj : j < A.length) (k : Nat) (hk : atI A[j] = (k : Int)) (hK : (k : Int) ∉ K) (hm : (k : Int) ∈ m.map (·.1)) {X : List Int} (hX : X.length = szN W k) (hXe : ∀ c (hc : c < X.length), X[c] = W.getD (k + 1 + c) 0) (hXb : ∀ a ∈ X, 0 ≤ a ∧ a < 18446744073709551616) (hXi : ∀ a ∈ X, plB H a = true → ∃ p, look m (atI a) = some p) :
    WInv W H m rs (j + 1) (A ++ X) (K ++ [(k : Int)]) := by
  refine ⟨?_, ?_, fun a ha => ?_, fun a ha => ?_, ?_, fun a ha => ?_, fun i hi hij hp => ?_, fun k' hk' c hc => ?_, fun r hr => List.mem_append_left _ (h.rts r hr)⟩
  · rw [List.length_append, h.len, hX]
    simp
    omega
  · rw [List.length_append]
    omega
  · rcases List.mem_append.1 ha with ha | ha
    · exact h.bnd a ha
    · exact hXb a ha
  · rcases List.mem_append.1 ha with ha | ha
    · exact h.im a ha
    · exact hXi a ha
  · refine List.nodup_append.2 ⟨h.nd, by simp, fun a ha b hb e => ?_⟩
    simp only [List.mem_singleton] at hb
    rw [e, hb] at ha
    exact hK ha
  · rcases List.mem_append.1 ha with ha | ha
    · exact h.key a ha
    · simp only [List.mem_singleton] at ha
      rw [ha]
      exact hm
  · have hil : i < A.length := by omega
    rw [List.getElem_append_left hil] at hp ⊢
    by_cases e : i = j
    · subst e
      rw [hk]
      simp
    · exact List.mem_append_left _ (h.proc i hil (by omega) hp)
  · rcases List.mem_append.1 hk' with hk' | hk'
    · exact List.mem_append_left _ (h.kw k' hk' c hc)
    · simp only [List.mem_singleton] at hk'
      have : k' = k := by omega
      subst this
      rw [← hXe c (by omega)]
      exact List.mem_append_right _ (List.getElem_mem _)

theorem sum_sz (l : List Int) : (l.map fun k => 1 + szN W k.toNat).sum = l.length + (l.map fun k => szN W k.toNat).sum := by
  induction l with
  | nil => rfl
  | cons a l ih =>
    simp only [List.map_cons, List.sum_cons, List.length_cons, ih]
    omega

theorem WInv.le (h : WInv W H m rs j A K) : A.length ≤ rs.length + ((m.map (·.1)).map fun k => szN W k.toNat).sum := by
  rw [h.len]
  have := sum_sub (fun k => szN W k.toNat) K (m.map (·.1)) h.nd h.key
  omega

/-- All was looked at. -/
theorem WInv.done (h : WInv W H m rs A.length A K) (hm : (m.map (·.1)).Nodup)
    (hC : ∀ C : Int → Prop, (∀ k : Nat, C k → H.getD k false = true → ∀ c, c < szN W k → plB H (W.getD (k + 1 + c) 0) = true → C (atI (W.getD (k + 1 + c) 0))) → (∀ r ∈ rs, plB H r = true → C (atI r)) → ∀ e ∈ m, C e.1) (f : Int → Nat) :
    (K.map f).sum = ((m.map (·.1)).map f).sum := by
  have inA : ∀ a ∈ A, plB H a = true → atI a ∈ K := fun a ha hp => by
    obtain ⟨i, hi, rfl⟩ := List.mem_iff_getElem.1 ha
    exact h.proc i hi hi hp
  have hall := hC (fun k => k ∈ K) (fun k hk _ c hc hp => inA _ (h.kw k hk c hc) hp) fun r hr hp => inA r (h.rts r hr) hp
  have h1 := sum_sub f K (m.map (·.1)) h.nd h.key
  have h2 := sum_sub f (m.map (·.1)) K hm fun x hx => by
    obtain ⟨e, he, rfl⟩ := List.mem_map.1 hx
    exact hall e he
  omega

theorem WInv.more (h : WInv W H m rs j A K) (hm : (m.map (·.1)).Nodup)
    (hC : ∀ C : Int → Prop, (∀ k : Nat, C k → H.getD k false = true → ∀ c, c < szN W k → plB H (W.getD (k + 1 + c) 0) = true → C (atI (W.getD (k + 1 + c) 0))) → (∀ r ∈ rs, plB H r = true → C (atI r)) → ∀ e ∈ m, C e.1) (hj : j < rs.length + ((m.map (·.1)).map fun k => szN W k.toNat).sum) : j < A.length := by
  have := h.jle
  by_cases e : j = A.length
  · subst e
    have := h.done hm hC fun k => szN W k.toNat
    have := h.len
    omega
  · omega
end

/-- The map of what was seen. -/
def seenE (m : List (Int × Int)) (K : List Int) : List (Value × Value) := K.map fun k => (.int .u64 (2 * k), .int .u64 ((look m k).getD 0))
theorem same_u64 (a b : Int) : Instr.sameNow (.int .u64) (.int .u64 a) (.int .u64 b) = some (decide (a = b)) := by
  unfold Instr.sameNow
  simp
  rfl
theorem seen_find (m : List (Int × Int)) (k : Int) : ∀ K : List Int, k ∈ K → mapFind (.int .u64) (.int .u64 (2 * k)) (seenE m K) = some (some (.int .u64 ((look m k).getD 0)))
  | [], h => by cases h
  | a :: K, h => by
    unfold seenE
    rw [List.map_cons]
    unfold mapFind
    rw [same_u64]
    by_cases e : k = a
    · subst e
      simp
    · rw [show decide (2 * k = 2 * a) = false by simp; omega]
      rcases List.mem_cons.1 h with rfl | h
      · exact absurd rfl e
      · exact seen_find m k K h
theorem seen_no (m : List (Int × Int)) (k : Int) : ∀ K : List Int, k ∉ K → mapFind (.int .u64) (.int .u64 (2 * k)) (seenE m K) = some none
  | [], _ => rfl
  | a :: K, h => by
    unfold seenE
    rw [List.map_cons]
    unfold mapFind
    rw [same_u64]
    have e : k ≠ a := fun e => h (by simp [e])
    rw [show decide (2 * k = 2 * a) = false by simp; omega]
    exact seen_no m k K fun hk => h (by simp [hk])
theorem seen_set (m : List (Int × Int)) (k : Int) : ∀ K : List Int, k ∉ K → mapSet (.int .u64) (.int .u64 (2 * k)) (.int .u64 ((look m k).getD 0)) (seenE m K) = some (seenE m (K ++ [k]))
  | [], _ => rfl
  | a :: K, h => by
    unfold seenE
    rw [List.map_cons]
    unfold mapSet
    rw [same_u64]
    have e : k ≠ a := fun e => h (by simp [e])
    rw [show decide (2 * k = 2 * a) = false by simp; omega]
    have ih := seen_set m k K fun hk => h (by simp [hk])
    unfold seenE at ih
    simp only [ih]
    rfl

/-- A map in the heap. -/
def MapAt (σ : AHeap) (r : Nat) (es : List (Value × Value)) : Prop := r < σ.n ∧ σ.get r = some (.map es)
section
variable {σ σ' : AHeap} {r : Nat} {es : List (Value × Value)}
theorem MapAt.frm {T : Nat → Prop} (h : MapAt σ r es) (k : Frm σ σ' T) (hT : ¬ T r) : MapAt σ' r es := ⟨Nat.lt_of_lt_of_le h.1 k.n, (k.get r h.1 hT).trans h.2⟩
theorem wp_makeMap {g : Option Nat → Pg} {Q : Post} (k : ∀ σ', Frm σ σ' NoB → σ'.n = σ.n + 1 → MapAt σ' σ.n [] → Wp PROG ov0 (g (some σ.n)) σ' Q) : Wp PROG ov0 (.act makeMapAct fun v => asMap v g) σ Q := by
  rw [wp_act, show makeMapAct σ = some (.map (some σ.n), σ.push (.map [])) from rfl]
  simp only [asMap]
  refine k _ ⟨Nat.le_succ _, rfl, fun j hj _ => get_push_lt _ _ hj, fun f j hj => ?_⟩ rfl ⟨Nat.lt_succ_self _, get_push_same _ _⟩
  have hj' : σ.n + 1 ≤ j := hj
  rw [AHeap.get_push, if_neg (by omega)]
  exact f j (by omega)
theorem MapAt.find (h : MapAt σ r es) (k : Value) : ∀ o, mapFind (.int .u64) k es = some o → ∀ z, lkp (.int .u64) z (some r) k true σ = some (match o with | some v => .tuple #[v, .bool true] | none => .tuple #[z, .bool false], σ) := by
  intro o ho z
  unfold lkp AHeap.getMap
  simp only [h.2, Option.map_some, ho]
  cases o <;> rfl
theorem wp_mup {es' : List (Value × Value)} {k v : Value} {p : Pg} {Q : Post} (h : MapAt σ r es) (hs : mapSet (.int .u64) k v es = some es') (K : ∀ σ', Frm σ σ' (· = r) → σ'.n = σ.n → MapAt σ' r es' → Wp PROG ov0 p σ' Q) :
    Wp PROG ov0 (.act (mup (.int .u64) (some r) k v) fun v => asTuple v fun l => asNil l p) σ Q := by
  have e : mup (.int .u64) (some r) k v σ = some (.tuple #[], σ.put r (.map es')) := by
    unfold mup AHeap.getMap
    simp only [h.2, hs]
  rw [wp_act, e]
  simp only [asTuple_tuple, asNil_nil]
  exact K _ (Frm.put _ _ _ h.1) rfl ⟨h.1, get_put_same _ _ _⟩
end
end Go.Pg
