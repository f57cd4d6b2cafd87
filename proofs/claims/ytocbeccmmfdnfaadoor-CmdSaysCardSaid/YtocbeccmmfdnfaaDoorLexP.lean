/- Layer 2: words of a row of bytes: runes, runs, remarks, what stands ahead of a word; what a word hangs on. -/
import Derived.Test.YtocbeccmmfdnfaaDoorV
namespace Go.Pg
open Go.Proofs Go.Utf8 Go.Lib

def mkB (l : List UInt8) : ByteArray := ⟨l.toArray⟩
theorem mkB_self (s : ByteArray) : mkB s.data.toList = s := rfl
theorem mkB_data (l : List UInt8) : (mkB l).data.toList = l := rfl
theorem mkB_size (l : List UInt8) : (mkB l).size = l.length := rfl

/-- The first rune of a row of bytes, how many bytes it has. -/
def decL (L : List UInt8) : Nat × Nat := dec (fun i => (L.getD i 0).toNat) L.length 0

theorem decL_eq (L : List UInt8) (p : Nat) (hp : p ≤ L.length) : Utf8.decode (mkB L) p = decL (L.drop p) := by
  rw [decode_dec]
  unfold decL
  have e : (mkB L).size = p + (L.drop p).length := by rw [mkB_size, List.length_drop]; omega
  rw [e]
  have := dec_shift (fun i => ((L.drop p).getD i 0).toNat) (byteN (mkB L)) p (L.drop p).length 0 (fun k => by
    unfold byteN
    rw [mkB_data]
    simp [List.getD, List.getElem?_drop])
  rw [Nat.add_zero] at this
  exact this

theorem decL_width {L : List UInt8} (h : L ≠ []) : 1 ≤ (decL L).2 ∧ (decL L).2 ≤ L.length := by
  have hl : 0 < L.length := List.length_pos_iff.2 h
  have := dec_width (fun i => (L.getD i 0).toNat) L.length 0 hl
  unfold decL
  omega

theorem getD_app_left (t R : List UInt8) {k : Nat} (h : k < t.length) : (t ++ R).getD k 0 = t.getD k 0 := by
  simp [List.getD, List.getElem?_append_left h]

theorem decL_left {t R : List UInt8} (ht : t ≠ []) (hR : R = [] ∨ ∃ b r, R = b :: r ∧ b.toNat < 128) : decL (t ++ R) = decL t := by
  have hl : 0 < t.length := List.length_pos_iff.2 ht
  unfold decL
  refine dec_left hl (by simp) (fun k hk => by simp only [getD_app_left t R hk]) fun hlt => ?_
  rcases hR with rfl | ⟨b, r, rfl, hb⟩
  · simp at hlt
  · simpa [List.getD] using hb

theorem dec_pre {g g' : Nat → Nat} {n n' : Nat} (h0 : 0 < n) (hg : ∀ k, k < n → g' k = g k) (hw : (dec g' n' 0).2 ≤ n) (hr : (dec g' n' 0).1 ≠ runeError) : dec g n 0 = dec g' n' 0 := by
  have e0 := hg 0 h0
  unfold dec at hw hr ⊢
  simp only [Nat.zero_add] at hw hr ⊢
  rw [e0] at hw hr ⊢
  by_cases h1 : g 0 < 0x80
  · rw [if_pos h1, if_pos h1]
  rw [if_neg h1] at hw hr ⊢
  rw [if_neg h1]
  by_cases h2 : (g 0 / 32 == 6 && (decide (1 < n') && (g' 1 / 64 == 2))) = true
  · rw [if_pos h2] at hw hr ⊢
    split at hw
    · rename_i hc
      have hn1 : 1 < n := hw
      have e1 := hg 1 hn1
      rw [e1] at h2 hc ⊢
      simp only [Bool.and_eq_true, decide_eq_true_eq, beq_iff_eq] at h2
      rw [if_pos (by simp [h2, hn1])]
    · rename_i hc
      rw [if_neg hc] at hr
      exact absurd rfl hr
  rw [if_neg h2] at hw hr ⊢
  by_cases h3 : (g 0 / 16 == 14 && (decide (1 < n') && (g' 1 / 64 == 2)) && (decide (2 < n') && (g' 2 / 64 == 2))) = true
  · rw [if_pos h3] at hw hr ⊢
    have hx : (g 0 / 32 == 6) = false := by
      simp only [Bool.and_eq_true, decide_eq_true_eq, beq_iff_eq] at h3
      rw [Bool.eq_false_iff]
      simp only [ne_eq, beq_iff_eq]
      omega
    rw [if_neg (by simp [hx])]
    split at hw
    · rename_i hc
      have hn2 : 2 < n := hw
      have e1 := hg 1 (by omega)
      have e2 := hg 2 hn2
      rw [e1, e2] at h3 hc ⊢
      simp only [Bool.and_eq_true, decide_eq_true_eq, beq_iff_eq] at h3
      rw [if_pos (by simp [h3, hn2]; omega)]
    · rename_i hc
      rw [if_neg hc] at hr
      exact absurd rfl hr
  rw [if_neg h3] at hw hr ⊢
  by_cases h4 : (g 0 / 8 == 30 && (decide (1 < n') && (g' 1 / 64 == 2)) && (decide (2 < n') && (g' 2 / 64 == 2)) && (decide (3 < n') && (g' 3 / 64 == 2))) = true
  · rw [if_pos h4] at hw hr ⊢
    have hx : (g 0 / 32 == 6) = false ∧ (g 0 / 16 == 14) = false := by
      simp only [Bool.and_eq_true, decide_eq_true_eq, beq_iff_eq] at h4
      simp only [Bool.eq_false_iff, ne_eq, beq_iff_eq]
      omega
    rw [if_neg (by simp [hx.1]), if_neg (by simp [hx.2])]
    split at hw
    · rename_i hc
      have hn3 : 3 < n := hw
      have e1 := hg 1 (by omega)
      have e2 := hg 2 (by omega)
      have e3 := hg 3 hn3
      rw [e1, e2, e3] at h4 hc ⊢
      simp only [Bool.and_eq_true, decide_eq_true_eq, beq_iff_eq] at h4
      rw [if_pos (by simp [h4, hn3]; omega)]
    · rename_i hc
      rw [if_neg hc] at hr
      exact absurd rfl hr
  · rw [if_neg h4] at hr
    exact absurd rfl hr

theorem decL_pre {t R : List UInt8} (ht : t ≠ []) (hw : (decL (t ++ R)).2 ≤ t.length) (hr : (decL (t ++ R)).1 ≠ runeError) : decL t = decL (t ++ R) := by
  have hl : 0 < t.length := List.length_pos_iff.2 ht
  unfold decL at hw hr ⊢
  exact dec_pre hl (fun k hk => by simp only [getD_app_left t R hk]) hw hr

theorem decL_ascii {b : UInt8} {r : List UInt8} (hb : b.toNat < 128) : decL (b :: r) = (b.toNat, 1) := by
  unfold decL dec
  simp only [List.getD_cons_zero]
  rw [if_pos hb]

theorem dec_lt {g : Nat → Nat} {n : Nat} (h : (dec g n 0).1 < 128) : g 0 = (dec g n 0).1 ∧ (dec g n 0).2 = 1 := by
  unfold dec at h ⊢
  simp only at h ⊢
  repeat' split at h
  all_goals first
    | (rename_i h1; rw [if_pos h1]; exact ⟨rfl, rfl⟩)
    | (exfalso; simp only [runeError, Bool.and_eq_true, decide_eq_true_eq, beq_iff_eq, ge_iff_le] at *; omega)
theorem decL_lt {L : List UInt8} (hL : L ≠ []) (h : (decL L).1 < 128) : ∃ b r, L = b :: r ∧ b.toNat = (decL L).1 ∧ (decL L).2 = 1 := by
  obtain ⟨b, r, rfl⟩ : ∃ b r, L = b :: r := by
    cases L with
    | nil => exact absurd rfl hL
    | cons b r => exact ⟨b, r, rfl⟩
  unfold decL at h ⊢
  have := dec_lt h
  exact ⟨b, r, rfl, this.1, this.2⟩

/-! ### runs -/
/-- How many bytes from the beginning on are runes that may be there. -/
def runL (may : Nat → Bool) : Nat → List UInt8 → Nat
  | 0, _ => 0
  | f + 1, L => if L = [] then 0 else if may (decL L).1 = true then (decL L).2 + runL may f (L.drop (decL L).2) else 0
def run (may : Nat → Bool) (L : List UInt8) : Nat := runL may L.length L

section
variable {may : Nat → Bool}
theorem runL_fuel : ∀ (f f' : Nat) (L : List UInt8), L.length ≤ f → L.length ≤ f' → runL may f L = runL may f' L
  | 0, f', L, h, _ => by
    have : L = [] := List.eq_nil_of_length_eq_zero (by omega)
    subst this
    cases f' <;> simp [runL]
  | f + 1, 0, L, _, h => by
    have : L = [] := List.eq_nil_of_length_eq_zero (by omega)
    subst this
    simp [runL]
  | f + 1, f' + 1, L, h1, h2 => by
    unfold runL
    by_cases hL : L = []
    · rw [if_pos hL, if_pos hL]
    · have := decL_width hL
      rw [if_neg hL, if_neg hL, runL_fuel f f' _ (by rw [List.length_drop]; omega) (by rw [List.length_drop]; omega)]
theorem run_nil : run may [] = 0 := rfl
theorem run_step {L : List UInt8} (hL : L ≠ []) : run may L = if may (decL L).1 = true then (decL L).2 + run may (L.drop (decL L).2) else 0 := by
  have hw := decL_width hL
  unfold run
  obtain ⟨n, hn⟩ : ∃ n, L.length = n + 1 := ⟨L.length - 1, by have := List.length_pos_iff.2 hL; omega⟩
  rw [hn]
  conv => lhs; unfold runL
  rw [if_neg hL, runL_fuel n (L.drop (decL L).2).length _ (by rw [List.length_drop]; omega) (Nat.le_refl _)]

theorem run_le : ∀ (n : Nat) (L : List UInt8), L.length ≤ n → run may L ≤ L.length
  | 0, L, h => by
    have : L = [] := List.eq_nil_of_length_eq_zero (by omega)
    subst this
    exact Nat.le_refl _
  | n + 1, L, h => by
    by_cases hL : L = []
    · subst hL; exact Nat.le_refl _
    · have hw := decL_width hL
      rw [run_step hL]
      split
      · have := run_le n (L.drop (decL L).2) (by rw [List.length_drop]; omega)
        rw [List.length_drop] at this
        omega
      · omega
theorem run_len (L : List UInt8) : run may L ≤ L.length := run_le _ L (Nat.le_refl _)

theorem run_stop {b : UInt8} {r : List UInt8} (hb : b.toNat < 128) (hm : may b.toNat = false) : run may (b :: r) = 0 := by
  rw [run_step (by simp), decL_ascii hb]
  simp [hm]
theorem run_go {b : UInt8} {r : List UInt8} (hb : b.toNat < 128) (hm : may b.toNat = true) : run may (b :: r) = 1 + run may r := by
  rw [run_step (by simp), decL_ascii hb]
  simp [hm]

/-- A run that ends where a row ends does not hang on what is behind it. -/
theorem run_pre (he : may runeError = false) (R : List UInt8) : ∀ (n : Nat) (t : List UInt8), t.length ≤ n → run may (t ++ R) = t.length → run may t = t.length
  | 0, t, h, _ => by
    have : t = [] := List.eq_nil_of_length_eq_zero (by omega)
    subst this
    rfl
  | n + 1, t, h, hr => by
    by_cases ht : t = []
    · subst ht; rfl
    · have hl := List.length_pos_iff.2 ht
      rw [run_step (by simp [ht])] at hr
      split at hr
      · rename_i hm
        have hne : (decL (t ++ R)).1 ≠ runeError := fun e => by rw [e, he] at hm; cases hm
        have hw : (decL (t ++ R)).2 ≤ t.length := by omega
        have e := decL_pre ht hw hne
        rw [← e, List.drop_append_of_le_length (by rw [e]; exact hw)] at hr
        have hw' := decL_width ht
        have ih := run_pre he R n (t.drop (decL t).2) (by rw [List.length_drop]; omega) (by rw [List.length_drop]; omega)
        rw [← e] at hm
        rw [run_step ht, if_pos hm, ih, List.length_drop]
        omega
      · omega

theorem run_app {R : List UInt8} (hR : R = [] ∨ ∃ b r, R = b :: r ∧ b.toNat < 128) : ∀ (n : Nat) (t : List UInt8), t.length ≤ n → run may t = t.length → run may (t ++ R) = t.length + run may R
  | 0, t, h, _ => by
    have : t = [] := List.eq_nil_of_length_eq_zero (by omega)
    subst this
    simp
  | n + 1, t, h, hr => by
    by_cases ht : t = []
    · subst ht; simp
    · have hl := List.length_pos_iff.2 ht
      have hw := decL_width ht
      rw [run_step ht] at hr
      split at hr
      · rename_i hm
        have ih := run_app hR n (t.drop (decL t).2) (by rw [List.length_drop]; omega) (by rw [List.length_drop]; omega)
        rw [run_step (by simp [ht]), decL_left ht hR, if_pos hm, List.drop_append_of_le_length hw.2, ih, List.length_drop]
        omega
      · omega

/-- A run, one byte more behind. -/
theorem run_snoc {b : UInt8} (hb : b.toNat < 128) : ∀ (n : Nat) (L : List UInt8), L.length ≤ n → run may (L ++ [b]) = if run may L = L.length then L.length + run may [b] else run may L
  | 0, L, h => by
    have : L = [] := List.eq_nil_of_length_eq_zero (by omega)
    subst this
    simp [run_nil]
  | n + 1, L, h => by
    by_cases hL : L = []
    · subst hL; simp [run_nil]
    · have hw := decL_width hL
      have hl := List.length_pos_iff.2 hL
      rw [run_step (L := L ++ [b]) (by simp), decL_left hL (.inr ⟨b, [], rfl, hb⟩), List.drop_append_of_le_length hw.2, run_step hL]
      by_cases hm : may (decL L).1 = true
      · rw [if_pos hm, if_pos hm, run_snoc hb n _ (by rw [List.length_drop]; omega), List.length_drop]
        split <;> split <;> omega
      · rw [if_neg hm, if_neg hm, if_neg (by omega)]
end

/-! ### remarks -/
/-- How many bytes are left of a remark. -/
def rmk : Nat → List UInt8 → Int → Option Nat
  | 0, _, _ => none
  | f + 1, L, d => match L with
    | [] => none
    | a :: r =>
      if a = 40 ∧ r.head? = some 42 then (if d + 1 = 0 then some 2 else (rmk f (r.drop 1) (d + 1)).map (· + 2))
      else if a = 42 ∧ r.head? = some 41 then (if d - 1 = 0 then some 2 else (rmk f (r.drop 1) (d - 1)).map (· + 2))
      else if d = 0 then some 1 else (rmk f r d).map (· + 1)

theorem rmk_fuel : ∀ (f f' : Nat) (L : List UInt8) (d : Int), L.length ≤ f → L.length ≤ f' → rmk f L d = rmk f' L d
  | 0, f', L, d, h, _ => by
    have : L = [] := List.eq_nil_of_length_eq_zero (by omega)
    subst this
    cases f' <;> rfl
  | f + 1, 0, L, d, _, h => by
    have : L = [] := List.eq_nil_of_length_eq_zero (by omega)
    subst this
    rfl
  | f + 1, f' + 1, L, d, h1, h2 => by
    cases L with
    | nil => rfl
    | cons a r =>
      simp only [List.length_cons] at h1 h2
      unfold rmk
      simp only
      rw [rmk_fuel f f' (r.drop 1) (d + 1) (by simp; omega) (by simp; omega), rmk_fuel f f' (r.drop 1) (d - 1) (by simp; omega) (by simp; omega), rmk_fuel f f' r d (by omega) (by omega)]
theorem rmk_bound : ∀ (f : Nat) (L : List UInt8) (d : Int) (m : Nat), rmk f L d = some m → 1 ≤ m ∧ m ≤ L.length
  | 0, L, d, m, h => by cases h
  | f + 1, L, d, m, h => by
    cases L with
    | nil => cases h
    | cons a r =>
      unfold rmk at h
      simp only at h
      split at h
      · rename_i h1
        have hr : 1 ≤ r.length := by
          cases r with
          | nil => simp at h1
          | cons _ _ => simp
        split at h
        · cases h; simp; omega
        · obtain ⟨k, hk, rfl⟩ := Option.map_eq_some_iff.1 h
          have := rmk_bound f _ _ _ hk
          simp at this ⊢
          omega
      · split at h
        · rename_i h1
          have hr : 1 ≤ r.length := by
            cases r with
            | nil => simp at h1
            | cons _ _ => simp
          split at h
          · cases h; simp; omega
          · obtain ⟨k, hk, rfl⟩ := Option.map_eq_some_iff.1 h
            have := rmk_bound f _ _ _ hk
            simp at this ⊢
            omega
        · split at h
          · cases h; simp
          · obtain ⟨k, hk, rfl⟩ := Option.map_eq_some_iff.1 h
            have := rmk_bound f _ _ _ hk
            simp
            omega

/-- A remark with anything behind it that ends it. -/
theorem rmk_app (R : List UInt8) : ∀ (f : Nat) (L : List UInt8) (d : Int) (m : Nat), rmk f L d = some m → d ≠ 0 ∨ L.take 2 = [40, 42] → ∀ f', (L ++ R).length ≤ f' → rmk f' (L ++ R) d = some m
  | 0, L, d, m, h, _, _, _ => by cases h
  | f + 1, L, d, m, h, hd, f', hf => by
    cases L with
    | nil => cases h
    | cons a r =>
      obtain ⟨g, rfl⟩ : ∃ g, f' = g + 1 := ⟨f' - 1, by simp at hf; omega⟩
      simp only [List.cons_append, List.length_cons, List.length_append] at hf
      unfold rmk at h
      simp only at h
      by_cases h1 : a = 40 ∧ r.head? = some 42
      · obtain ⟨rfl, h1⟩ := h1
        obtain ⟨c, r, rfl⟩ : ∃ c r', r = c :: r' := by
          cases r with
          | nil => simp at h1
          | cons c r' => exact ⟨c, r', rfl⟩
        simp only [List.head?_cons, Option.some.injEq] at h1
        subst h1
        simp only [List.head?_cons, and_self, if_true, List.drop_succ_cons, List.drop_zero] at h
        simp only [List.length_cons] at hf
        rw [List.cons_append, List.cons_append]
        unfold rmk
        simp only [List.head?_cons, and_self, if_true, List.drop_succ_cons, List.drop_zero]
        by_cases h2 : d + 1 = 0
        · rw [if_pos h2] at h ⊢; exact h
        · rw [if_neg h2] at h ⊢
          obtain ⟨k, hk, rfl⟩ := Option.map_eq_some_iff.1 h
          rw [rmk_app R f r (d + 1) k hk (.inl h2) g (by simp; omega)]
          rfl
      · have hd' : d ≠ 0 := by
          rcases hd with hd | hd
          · exact hd
          · exfalso
            apply h1
            cases r with
            | nil => simp at hd
            | cons c r' => simp at hd; simp [hd]
        rw [if_neg h1] at h
        by_cases h3 : a = 42 ∧ r.head? = some 41
        · obtain ⟨rfl, h3⟩ := h3
          obtain ⟨c, r, rfl⟩ : ∃ c r', r = c :: r' := by
            cases r with
            | nil => simp at h3
            | cons c r' => exact ⟨c, r', rfl⟩
          simp only [List.head?_cons, Option.some.injEq] at h3
          subst h3
          simp only [List.head?_cons, and_self, if_true, List.drop_succ_cons, List.drop_zero] at h
          simp only [List.length_cons] at hf
          rw [List.cons_append, List.cons_append]
          unfold rmk
          simp only [List.head?_cons, and_self, if_true, List.drop_succ_cons, List.drop_zero]
          rw [if_neg (by decide)]
          by_cases h2 : d - 1 = 0
          · rw [if_pos h2] at h ⊢; exact h
          · rw [if_neg h2] at h ⊢
            obtain ⟨k, hk, rfl⟩ := Option.map_eq_some_iff.1 h
            rw [rmk_app R f r (d - 1) k hk (.inl h2) g (by simp; omega)]
            rfl
        · rw [if_neg h3, if_neg hd'] at h
          obtain ⟨k, hk, rfl⟩ := Option.map_eq_some_iff.1 h
          have hb := rmk_bound f r d k hk
          obtain ⟨c, r, rfl⟩ : ∃ c r', r = c :: r' := by
            cases r with
            | nil => simp at hb; omega
            | cons c r' => exact ⟨c, r', rfl⟩
          simp only [List.head?_cons] at h1 h3
          rw [List.cons_append]
          unfold rmk
          simp only [List.cons_append, List.head?_cons]
          rw [if_neg h1, if_neg h3, if_neg hd', ← List.cons_append, rmk_app R f (c :: r) d k hk (.inl hd') g (by simp only [List.length_append]; omega)]
          rfl

/-- A remark that has no end has none with a blank behind it. -/
theorem rmk_none {b : UInt8} (h41 : b ≠ 41) (h42 : b ≠ 42) (h40 : b ≠ 40) : ∀ (f : Nat) (L : List UInt8) (d : Int), L.length ≤ f → rmk f L d = none → d ≠ 0 → ∀ f', (L ++ [b]).length ≤ f' → rmk f' (L ++ [b]) d = none
  | f, [], d, _, _, hd, f', hf => by
    obtain ⟨g, rfl⟩ : ∃ g, f' = g + 1 := ⟨f' - 1, by simp at hf; omega⟩
    rw [List.nil_append]
    unfold rmk
    simp only [List.head?_nil, reduceCtorEq, and_false, if_false, hd]
    cases g <;> rfl
  | 0, a :: r, d, hl, _, _, _, _ => by simp at hl
  | f + 1, a :: r, d, hl, h, hd, f', hf => by
    obtain ⟨g, rfl⟩ : ∃ g, f' = g + 1 := ⟨f' - 1, by simp at hf; omega⟩
    simp only [List.cons_append, List.length_cons, List.length_append] at hf hl
    unfold rmk at h
    simp only at h
    rw [List.cons_append]
    unfold rmk
    simp only
    have hh : ∀ x : UInt8, x ≠ b → ((r ++ [b]).head? = some x ↔ r.head? = some x) := by
      intro x hx
      cases r with
      | nil => simp; exact fun e => hx e.symm
      | cons c r' => simp
    simp only [hh 42 (fun e => h42 e.symm), hh 41 (fun e => h41 e.symm)]
    have hdr : r ≠ [] → (r ++ [b]).drop 1 = r.drop 1 ++ [b] := by
      intro hr
      cases r with
      | nil => exact absurd rfl hr
      | cons c r' => rfl
    by_cases h1 : a = 40 ∧ r.head? = some 42
    · rw [if_pos h1] at h ⊢
      have hr : r ≠ [] := by intro e; subst e; simp at h1
      by_cases h2 : d + 1 = 0
      · rw [if_pos h2] at h; cases h
      · rw [if_neg h2] at h ⊢
        rw [hdr hr, rmk_none h41 h42 h40 f _ _ (by simp; omega) (by simpa using h) h2 g (by simp; omega)]
        rfl
    · rw [if_neg h1] at h ⊢
      by_cases h3 : a = 42 ∧ r.head? = some 41
      · rw [if_pos h3] at h ⊢
        have hr : r ≠ [] := by intro e; subst e; simp at h3
        by_cases h2 : d - 1 = 0
        · rw [if_pos h2] at h; cases h
        · rw [if_neg h2] at h ⊢
          rw [hdr hr, rmk_none h41 h42 h40 f _ _ (by simp; omega) (by simpa using h) h2 g (by simp; omega)]
          rfl
      · rw [if_neg h3, if_neg hd] at h ⊢
        rw [rmk_none h41 h42 h40 f _ _ (by omega) (by simpa using h) hd g (by simp; omega)]
        rfl
end Go.Pg
