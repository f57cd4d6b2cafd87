/- Layer 18: the tape: a copy of a row, New, Out; the document's Digits; awake. -/
import Derived.Test.YteelimkplbfiiaaDoorTape1
namespace Go.Pg
open Go.Proofs Go.Lib

section
variable {P : Program} {ov : Ov}
/-- A row is appended, that can be read. -/
theorem wp_appF {σ : AHeap} {b cap len cap2 n byt : Nat} {p p2 : Option Addr} {xs ys : List Value} {g : Option Addr → Nat → Nat → Pg} {Q : Post} (h : SlV σ b p cap xs) (hlen : len = xs.length) (hf : firstOf 1 n σ (.slice p2 n cap2) = some ys) (hyo : ∀ y ∈ ys, one y = true) (hn : n = ys.length)
    (hb : 2 * (len + n) * byt ≤ 281474976710656) (hb2 : len + n ≤ 4611686018427387904)
    (k : ∀ σ' b' p' cap', Frm σ σ' (fun j => p ≠ none ∧ j = b) → (p' = none ∨ (p ≠ none ∧ b' = b) ∨ σ.n ≤ b') → SlV σ' b' p' cap' (xs ++ ys) → Wp P ov (g p' (len + n) cap') σ' Q) :
    Wp P ov (.act (apS 1 byt p len cap p2 n cap2) fun w => asSlice w g) σ Q := by
  subst hlen
  subst hn
  have e0 : apS 1 byt p xs.length cap p2 ys.length cap2 σ = apCore 1 byt p xs.length cap ys.length ys σ := by unfold apS; rw [hf]
  rw [wp_act, e0]
  by_cases h0 : ys = []
  · subst h0
    rw [List.length_nil, apCore_zero h.cap]
    simp only [asSlice_slice]
    refine k σ b p cap (Frm.refl _ _) ?_ (by simpa using h)
    cases p with
    | none => exact .inl rfl
    | some a => exact .inr (.inl ⟨by simp, rfl⟩)
  · have hy1 : 1 ≤ ys.length := by
      cases ys with
      | nil => exact absurd rfl h0
      | cons y ys => simp
    rcases h with ⟨rfl, rfl, rfl⟩ | ⟨off, s, rfl, h⟩
    · rw [List.length_nil, apCore_nil (by decide) hy1 (by simp) hyo (by simpa using hb) (by simpa using hb2)]
      simp only [asSlice_slice]
      have := k (σ.newBlk ys 1) σ.n (some ⟨σ.n, 0, some 1⟩) ys.length (Frm.new _ _ _ _) (.inr (.inr (Nat.le_refl _))) (.inr ⟨0, 1, rfl, by simpa using Row.new σ 1 ys ys.length (by decide) (by simp) hyo⟩)
      simpa using this
    · obtain ⟨σ', s', cap', e1, e2, e3, e4, e5⟩ := h.append (byt := byt) (len := xs.length) (n := ys.length) (ys := ys) (by simp) (by simp) (by decide) hy1 hyo hb hb2
      rw [e1]
      simp only [asSlice_slice]
      exact k σ' b _ cap' ((Frm.of1 h.lt e2 e3 e4).mono fun j _ e => ⟨by simp, e⟩) (.inr (.inl ⟨by simp, rfl⟩)) (.inr ⟨off, s', rfl, e5⟩)
end

section
variable {σ : AHeap}

/-- slices.Clone. -/
theorem wp_clone {p : Option Addr} {n c : Nat} {l : List Int} (hn : n = l.length) (hp : p = none → l = []) (hf : ∀ σ', σ'.old = σ.old → (∀ j, j < σ.n → σ'.get j = σ.get j) → firstOf 1 n σ' (.slice p n c) = some (ints .i64 l)) (hs : l.length ≤ 1000) {Q : Value → AHeap → Prop}
    (hQ : ∀ σ' b' p' c', Frm σ σ' NoB → SlV σ' b' p' c' (ints .i64 l) → (p' ≠ none → σ.n ≤ b') → Q (.slice p' l.length c') σ') : WpF PROG ovD 14 [.slice p n c] σ Q := by
  subst hn
  refine WpF.of (T14_eq _ _ _) rfl ?_
  rw [T14, wp_bif]
  cases p with
  | none =>
    have hl := hp rfl
    subst hl
    rw [if_pos (by rfl), wp_ret]
    exact ⟨_, rfl, hQ σ 0 none 0 (Frm.refl _ _) (.inl ⟨rfl, rfl, rfl⟩) fun h => absurd rfl h⟩
  | some a =>
    rw [if_neg (by simp), wp_act, bdSl_eq]
    simp only [asSlice_slice]
    have hF := Frm.new σ [] 1 NoB
    have hN := Row.new σ 1 [] 0 (by decide) rfl (by intro x hx; cases hx)
    refine wp_appF (xs := []) (.inr ⟨0, 1, rfl, hN⟩) rfl (hf _ hF.old fun j hj => hF.get j hj fun h => h) (ints_one _ _) (by simp) (by omega) (by omega) fun σ1 b' p' c' hF1 hb' hR => ?_
    rw [wp_ret]
    rw [List.nil_append] at hR
    rw [Nat.zero_add]
    refine ⟨_, rfl, hQ σ1 b' p' c' (hF.fresh hF1 fun j hj e => by have := e.2; omega) hR fun hp' => ?_⟩
    rcases hb' with h | ⟨_, h⟩ | h
    · exact absurd h hp'
    · omega
    · rw [newBlk_n] at h
      omega

/-- New. -/
theorem wp_new {p : Option Addr} {n c : Nat} {l : List Int} (hn : n = l.length) (hp : p = none → l = []) (hf : ∀ σ', σ'.old = σ.old → (∀ j, j < σ.n → σ'.get j = σ.get j) → firstOf 1 n σ' (.slice p n c) = some (ints .i64 l)) (hs : l.length ≤ 250) {Q : Value → AHeap → Prop}
    (h1 : 200 < l.length → Q (.tuple #[.pointer none, .int .i64 1]) σ) (h2 : l.length ≤ 200 → ∀ σ' b, Frm σ σ' NoB → TP σ' b (fun j => j < σ.n) l [] 0 → Q (.tuple #[TA b, .int .i64 0]) σ') : WpF PROG ovD 6 [.slice p n c] σ Q := by
  refine WpF.of (T6_eq _ _ _) rfl ?_
  rw [T6, wp_bif]
  by_cases hl : 200 < l.length
  · rw [if_pos (by simp; omega), wp_ret]
    exact ⟨_, rfl, h1 hl⟩
  · rw [if_neg (by simp; omega), wp_call]
    refine wp_clone hn hp hf (by omega) fun σ1 b1 p1 c1 hF1 hR1 hb1 => ?_
    rw [asSlice_slice]
    refine wp_newQ fun σ2 hF2 hn2 hS2 => ?_
    rw [wp_ret]
    have hlt : ∀ hq : p1 ≠ none, b1 < σ1.n := fun hq => hR1.lt' hq
    refine ⟨_, rfl, h2 (by omega) σ2 σ1.n (hF1.seq hF2) ⟨fun i hi => by have := hF1.n; omega, b1, p1, c1, 0, none, 0, hS2, hR1.frm hF2 fun _ h => h, .inl ⟨rfl, rfl, rfl⟩, fun hq => ⟨by have := hlt hq; omega, fun h => by have := hb1 hq; omega⟩, fun h => absurd rfl h, fun _ h => absurd rfl h, fun h => by have := hF1.n; omega, by omega, by omega, by simp, by simp⟩⟩

/-- Out. -/
theorem wp_out {b : Nat} {Y : Nat → Prop} {inp out : List Int} {rd : Nat} (h : TP σ b Y inp out rd) {Q : Value → AHeap → Prop}
    (hQ : ∀ σ' b' p' c', Frm σ σ' NoB → SlV σ' b' p' c' (ints .i64 out) → (p' ≠ none → σ.n ≤ b') → Q (.slice p' out.length c') σ') : WpF PROG ovD 11 [TA b] σ Q := by
  obtain ⟨h0, bi, pi, ci, bo, po, co, hS, hi, ho, d1, d2, d3, d4, h5, h6, h7, h8⟩ := h
  refine WpF.of (T11_eq _) rfl ?_
  rw [T11, wp_fld hS rfl, asSlice_slice, wp_call]
  refine wp_clone rfl ?_ ?_ h7 fun σ1 b1 p1 c1 hF1 hR1 hb1 => ?_
  · rintro rfl
    rcases ho with ⟨_, _, e⟩ | ⟨_, _, e, _⟩
    · simpa using e
    · cases e
  · intro σ' h1 h2
    rcases ho with ⟨rfl, rfl, e⟩ | ⟨off, s, rfl, ho⟩
    · have e' : out = [] := by simpa using e
      subst e'
      rfl
    · unfold firstOf
      have := ho.rdN (i := 0) (k := out.length) (by simp)
      rw [Nat.add_zero, List.drop_zero, List.take_of_length_le (by simp)] at this
      simp only [Nat.mul_one]
      rw [rdN_get (h2 _ ho.lt)]
      exact this
  · rw [asSlice_slice, wp_ret]
    exact ⟨_, rfl, hQ σ1 b1 p1 c1 hF1 hR1 hb1⟩

theorem dec_len : ∀ (k u : Nat), u < 10 ^ (k + 1) → (decDigits u).length ≤ k + 1
  | k, u, h => by
    rw [decDigits]
    split
    · simp
    · rename_i h1
      cases k with
      | zero => simp at h; omega
      | succ k =>
        have := dec_len k (u / 10) (by rw [Nat.pow_succ] at h; omega)
        simp
        omega

theorem wp_byteStr {x : Int} (_h0 : 0 ≤ x) (_h1 : x ≤ 255) {g : ByteArray → Pg} {Q : Post} (k : ∀ σ', Frm σ σ' NoB → Wp PROG ovD (g (mkB [UInt8.ofNat x.toNat])) σ' Q) :
    Wp PROG ovD (.act (bdSl 1 1 [.int .u8 x]) fun v7 => asSlice v7 fun p8 n9 n10 => .act (bytesToStringAct (.slice p8 n9 n10)) fun v11 => asStr v11 g) σ Q := by
  rw [wp_act, bdSl_eq]
  simp only [asSlice_slice]
  have hF := Frm.new σ [.int .u8 x] 1 NoB
  have hN := Row.new σ 1 [.int .u8 x] 1 (by decide) rfl (by intro y hy; simp at hy; subst hy; rfl)
  have hr : (σ.newBlk [.int .u8 x] 1).rdN ⟨σ.n, 0, some 1⟩ 1 = some [.int .u8 x] := hN.rdN (i := 0) (k := 1) (by simp)
  rw [wp_act]
  unfold bytesToStringAct
  simp only [hr, bytesOfCells]
  exact k _ hF
end

theorem wp_digN : ∀ (m n : Nat), n ≤ m → n ≤ 9223372036854775807 → ∀ (σ : AHeap) {Q : Value → AHeap → Prop} (_ : ∀ σ', Frm σ σ' NoB → Q (.string (mkB (decDigits n))) σ'), WpF PROG ovD 12 [.int .i64 (n : Nat)] σ Q
  | m, n, hm, hn, σ, Q, hQ => by
    refine WpF.of (T12_eq _) rfl ?_
    rw [T12, wp_bif, if_neg (by simp), wp_bif]
    by_cases h : n < 10
    · rw [if_pos (by simp; omega)]
      have e1 : wi64 (48 + (n : Int)) = 48 + (n : Int) := wi64_in (by omega)
      have e2 : wu8 (48 + (n : Int)) = 48 + (n : Int) := wu8_in (by omega)
      rw [e1, e2]
      refine wp_byteStr (by omega) (by omega) fun σ1 hF1 => ?_
      rw [wp_ret]
      have := hQ σ1 hF1
      rw [decDigits, dif_pos h] at this
      rw [show (48 + (n : Int)).toNat = 48 + n by omega]
      exact ⟨_, rfl, this⟩
    · rw [if_neg (by simp; omega)]
      have e1 : Int.tdiv (n : Int) 10 = ((n / 10 : Nat) : Int) := by rw [Int.tdiv_eq_ediv_of_nonneg (by omega)]; omega
      have e2 : wi64 ((n / 10 : Nat) : Int) = ((n / 10 : Nat) : Int) := wi64_in (by omega)
      have e3 : Int.tmod (n : Int) 10 = ((n % 10 : Nat) : Int) := by rw [Int.tmod_eq_emod_of_nonneg (by omega)]; omega
      rw [e1, e2, e3, wp_call]
      cases m with
      | zero => omega
      | succ m =>
        refine wp_digN m (n / 10) (by omega) (by omega) σ fun σ1 hF1 => ?_
        rw [asStr_str, wp_call]
        refine wp_digN m (n % 10) (by omega) (by omega) σ1 fun σ2 hF2 => ?_
        have hl1 := dec_len 19 (n / 10) (by omega)
        have hl2 := dec_len 19 (n % 10) (by omega)
        rw [asStr_str, wp_grd]
        refine ⟨by rw [Nat.ble_eq, mkB_size, mkB_size]; omega, ?_⟩
        rw [app_mkB, wp_ret]
        have := hQ σ2 (hF1.seq hF2)
        rw [decDigits, dif_neg h] at this
        rw [show decDigits (n % 10) = [UInt8.ofNat (48 + n % 10)] by rw [decDigits, dif_pos (by omega)]]
        exact ⟨_, rfl, this⟩

/-- Digits. -/
theorem wp_digits (z : Int) (hz : r64 z) (σ : AHeap) {Q : Value → AHeap → Prop} (hQ : ∀ σ', Frm σ σ' NoB → Q (.string (mkB (itoa z))) σ') : WpF PROG ovD 12 [.int .i64 z] σ Q := by
  unfold r64 at hz
  by_cases h0 : 0 ≤ z
  · obtain ⟨n, rfl⟩ : ∃ n : Nat, z = (n : Int) := ⟨z.toNat, by omega⟩
    rw [itoa_nonneg] at hQ
    exact wp_digN n n (Nat.le_refl _) (by omega) σ hQ
  · obtain ⟨n, rfl⟩ : ∃ n : Nat, z = -(n : Int) := ⟨(-z).toNat, by omega⟩
    have hn : 1 ≤ n := by omega
    rw [itoa_neg n hn] at hQ
    have hu : wu64 (wi64 (0 - -(n : Int))) = (n : Int) := by
      rw [show (0 : Int) - -(n : Int) = (n : Int) by omega]
      by_cases hm : n = 9223372036854775808
      · subst hm
        decide +kernel
      · rw [wi64_in (by omega), wu64_in (by omega)]
    refine WpF.of (T12_eq _) rfl ?_
    rw [T12, hu, wp_bif, if_pos (by simp; omega), wp_bif]
    have e45 : bs [45] = mkB [45] := rfl
    by_cases h : n < 10
    · rw [if_neg (by simp; omega), wi64_in (by omega), wp_call]
      refine wp_digN n n (Nat.le_refl _) (by omega) σ fun σ1 hF1 => ?_
      have hl1 := dec_len 19 n (by omega)
      rw [asStr_str, wp_grd]
      refine ⟨by rw [Nat.ble_eq, mkB_size]; omega, ?_⟩
      rw [e45, app_mkB, wp_ret]
      exact ⟨_, rfl, hQ σ1 hF1⟩
    · rw [if_pos (by simp; omega)]
      have e1 : Int.tdiv (n : Int) 10 = ((n / 10 : Nat) : Int) := by rw [Int.tdiv_eq_ediv_of_nonneg (by omega)]; omega
      have e2 : wi64 (wu64 ((n / 10 : Nat) : Int)) = ((n / 10 : Nat) : Int) := by rw [wu64_in (by omega), wi64_in (by omega)]
      have e3 : Int.tmod (n : Int) 10 = ((n % 10 : Nat) : Int) := by rw [Int.tmod_eq_emod_of_nonneg (by omega)]; omega
      have e4 : wi64 ((n % 10 : Nat) : Int) = ((n % 10 : Nat) : Int) := wi64_in (by omega)
      rw [e1, e2, e3, e4, wp_call]
      refine wp_digN n (n / 10) (by omega) (by omega) σ fun σ1 hF1 => ?_
      have hl1 := dec_len 19 (n / 10) (by omega)
      have hl2 := dec_len 19 (n % 10) (by omega)
      rw [asStr_str, wp_grd]
      refine ⟨by rw [Nat.ble_eq, mkB_size]; omega, ?_⟩
      rw [wp_call]
      refine wp_digN n (n % 10) (by omega) (by omega) σ1 fun σ2 hF2 => ?_
      rw [asStr_str, wp_grd, e45, app_mkB]
      refine ⟨by rw [Nat.ble_eq, mkB_size, mkB_size, List.length_append]; simp only [List.length_cons, List.length_nil]; omega, ?_⟩
      rw [app_mkB, wp_ret]
      have := hQ σ2 (hF1.seq hF2)
      rw [decDigits, dif_neg h] at this
      rw [show decDigits (n % 10) = [UInt8.ofNat (48 + n % 10)] by rw [decDigits, dif_pos (by omega)]]
      exact ⟨_, rfl, by simpa using this⟩
end Go.Pg
