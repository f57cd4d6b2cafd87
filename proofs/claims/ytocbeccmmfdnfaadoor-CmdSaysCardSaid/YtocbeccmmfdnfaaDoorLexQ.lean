/- Layer 2: what a text's words are; what they hang on. -/
import Derived.Test.YtocbeccmmfdnfaaDoorLexP
namespace Go.Pg
open Go.Proofs Go.Utf8 Go.Lib

def marks : List Int := [40, 41, 44, 59, 61, 60, 62, 43, 45, 42, 124, 33, 58]
def clsF (r : Int) : Int := if r = 95 ∨ r = 39 ∨ isLetterU r = true then 1 else if 48 ≤ r ∧ r ≤ 57 then 2 else if r = 32 ∨ r = 9 ∨ r = 10 ∨ r = 13 then 3 else if r ∈ marks then 4 else 0

theorem cls_1 {r : Int} (h : r = 95 ∨ r = 39 ∨ isLetterU r = true) : clsF r = 1 := by unfold clsF; rw [if_pos h]
theorem cls_2 {r : Int} (h : ¬ (r = 95 ∨ r = 39 ∨ isLetterU r = true)) (h2 : 48 ≤ r ∧ r ≤ 57) : clsF r = 2 := by unfold clsF; rw [if_neg h, if_pos h2]
theorem cls_3 {r : Int} (h : ¬ (r = 95 ∨ r = 39 ∨ isLetterU r = true)) (h2 : ¬ (48 ≤ r ∧ r ≤ 57)) (h3 : r = 32 ∨ r = 9 ∨ r = 10 ∨ r = 13) : clsF r = 3 := by unfold clsF; rw [if_neg h, if_neg h2, if_pos h3]
theorem cls_4 {r : Int} (h : ¬ (r = 95 ∨ r = 39 ∨ isLetterU r = true)) (h2 : ¬ (48 ≤ r ∧ r ≤ 57)) (h3 : ¬ (r = 32 ∨ r = 9 ∨ r = 10 ∨ r = 13)) (h4 : r ∈ marks) : clsF r = 4 := by unfold clsF; rw [if_neg h, if_neg h2, if_neg h3, if_pos h4]
theorem cls_0 {r : Int} (h : ¬ (r = 95 ∨ r = 39 ∨ isLetterU r = true)) (h2 : ¬ (48 ≤ r ∧ r ≤ 57)) (h3 : ¬ (r = 32 ∨ r = 9 ∨ r = 10 ∨ r = 13)) (h4 : ¬ r ∈ marks) : clsF r = 0 := by unfold clsF; rw [if_neg h, if_neg h2, if_neg h3, if_neg h4]
theorem cls_dig {r : Nat} : clsF r = 2 → 48 ≤ r ∧ r ≤ 57 := by
  unfold clsF
  split
  · simp
  · split
    · omega
    · split
      · simp
      · split <;> simp
theorem cls_mark {r : Nat} : clsF r = 4 → (r : Int) ∈ marks := by
  unfold clsF
  split
  · simp
  · split
    · simp
    · split
      · simp
      · split
        · rename_i h; exact fun _ => h
        · simp
theorem mark_lt {r : Nat} (h : (r : Int) ∈ marks) : r < 128 := by
  unfold marks at h
  simp only [List.mem_cons, List.mem_nil_iff, or_false] at h
  omega

def blk (r : Nat) : Bool := clsF r == 3
def dig (r : Nat) : Bool := clsF r == 2
def lod (r : Nat) : Bool := clsF r == 1 || clsF r == 2
theorem blk_err : blk runeError = false := by decide +kernel
theorem dig_err : dig runeError = false := by decide +kernel
theorem lod_err : lod runeError = false := by decide +kernel
theorem blk_32 : blk 32 = true := by decide +kernel
theorem dig_32 : dig 32 = false := by decide +kernel
theorem lod_32 : lod 32 = false := by decide +kernel
theorem dig_digit {r : Nat} (h : 48 ≤ r ∧ r ≤ 57) : dig r = true := by
  have : r = 48 ∨ r = 49 ∨ r = 50 ∨ r = 51 ∨ r = 52 ∨ r = 53 ∨ r = 54 ∨ r = 55 ∨ r = 56 ∨ r = 57 := by omega
  rcases this with rfl | rfl | rfl | rfl | rfl | rfl | rfl | rfl | rfl | rfl <;> decide +kernel

/-- A run is as long as can be. -/
theorem run_max {may : Nat → Bool} : ∀ (n : Nat) (L : List UInt8), L.length ≤ n → ∀ b r, L.drop (run may L) = b :: r → b.toNat < 128 → may b.toNat = false
  | 0, L, h, b, r, hd, _ => by
    have : L = [] := List.eq_nil_of_length_eq_zero (by omega)
    subst this
    simp at hd
  | n + 1, L, h, b, r, hd, hb => by
    by_cases hL : L = []
    · subst hL; simp at hd
    · have hw := decL_width hL
      rw [run_step hL] at hd
      split at hd
      · rw [← List.drop_drop] at hd
        exact run_max n (L.drop (decL L).2) (by rw [List.length_drop]; omega) b r hd hb
      · rename_i hm
        simp only [List.drop_zero] at hd
        subst hd
        rw [decL_ascii hb] at hm
        simpa using hm

/-! ### what stands ahead of a word -/
def skpF : Nat → List UInt8 → Nat × Bool
  | 0, _ => (0, true)
  | f + 1, L =>
    if (L.drop (run blk L)).take 2 = [40, 42] then
      match rmk (L.drop (run blk L)).length (L.drop (run blk L)) 0 with
      | none => (run blk L, false)
      | some m => (run blk L + m + (skpF f (L.drop (run blk L + m))).1, (skpF f (L.drop (run blk L + m))).2)
    else (run blk L, true)
def skp (L : List UInt8) : Nat × Bool := skpF (L.length + 1) L

theorem skpF_fuel : ∀ (f f' : Nat) (L : List UInt8), L.length < f → L.length < f' → skpF f L = skpF f' L
  | 0, _, L, h, _ => by omega
  | _ + 1, 0, L, _, h => by omega
  | f + 1, f' + 1, L, h1, h2 => by
    unfold skpF
    split
    · split
      · rfl
      · rename_i m hm
        have := rmk_bound _ _ _ _ hm
        rw [List.length_drop] at this
        rw [skpF_fuel f f' _ (by rw [List.length_drop]; omega) (by rw [List.length_drop]; omega)]
    · rfl
theorem skp_step (L : List UInt8) : skp L = if (L.drop (run blk L)).take 2 = [40, 42] then
      match rmk (L.drop (run blk L)).length (L.drop (run blk L)) 0 with
      | none => (run blk L, false)
      | some m => (run blk L + m + (skp (L.drop (run blk L + m))).1, (skp (L.drop (run blk L + m))).2)
    else (run blk L, true) := by
  unfold skp
  conv => lhs; unfold skpF
  split
  · split
    · rfl
    · rename_i m hm
      have := rmk_bound _ _ _ _ hm
      rw [List.length_drop] at this
      rw [skpF_fuel L.length ((L.drop (run blk L + m)).length + 1) _ (by rw [List.length_drop]; omega) (by omega)]
  · rfl
theorem skp_le : ∀ (n : Nat) (L : List UInt8), L.length ≤ n → (skp L).1 ≤ L.length
  | n, L, h => by
    have hr := run_len (may := blk) L
    rw [skp_step]
    split
    · split
      · exact hr
      · rename_i m hm
        have hb := rmk_bound _ _ _ _ hm
        rw [List.length_drop] at hb
        cases n with
        | zero => omega
        | succ n =>
          have := skp_le n (L.drop (run blk L + m)) (by rw [List.length_drop]; omega)
          rw [List.length_drop] at this
          simp only
          omega
    · exact hr
theorem skp_len (L : List UInt8) : (skp L).1 ≤ L.length := skp_le _ L (Nat.le_refl _)
theorem skp_32 (L : List UInt8) : skp (32 :: L) = ((skp L).1 + 1, (skp L).2) := by
  have e : run blk (32 :: L) = run blk L + 1 := by rw [run_go (by decide) blk_32]; omega
  rw [skp_step (32 :: L), skp_step L, e, List.drop_succ_cons]
  split
  · split
    · rfl
    · rename_i m hm
      rw [show run blk L + 1 + m = (run blk L + m) + 1 by omega, List.drop_succ_cons]
      simp only [Prod.mk.injEq, and_true]
      omega
  · rfl
theorem skp_32s (n : Nat) (L : List UInt8) : skp (List.replicate n 32 ++ L) = ((skp L).1 + n, (skp L).2) := by
  induction n with
  | zero => simp
  | succ n ih => rw [List.replicate_succ, List.cons_append, skp_32, ih]; simp; omega

/-- One blank more behind. -/
theorem skp_snoc : ∀ (n : Nat) (L : List UInt8), L.length ≤ n → skp (L ++ [32]) = if (skp L).2 = true ∧ (skp L).1 = L.length then (L.length + 1, true) else skp L
  | n, L, h => by
    have hr := run_len (may := blk) L
    have es := run_snoc (may := blk) (b := 32) (by decide) _ L (Nat.le_refl _)
    rw [show run blk [32] = 1 by rw [run_go (by decide) blk_32, run_nil]] at es
    by_cases hf : run blk L = L.length
    · rw [if_pos hf] at es
      have e1 : skp L = (L.length, true) := by
        rw [skp_step, hf, List.drop_length]
        rfl
      rw [e1, if_pos ⟨rfl, rfl⟩, skp_step, es, List.drop_of_length_le (by simp)]
      rfl
    · rw [if_neg hf] at es
      have hd : (L ++ [32]).drop (run blk L) = L.drop (run blk L) ++ [32] := List.drop_append_of_le_length hr
      have hne : L.drop (run blk L) ≠ [] := by simp; omega
      have ht : (L.drop (run blk L) ++ [32]).take 2 = [40, 42] ↔ (L.drop (run blk L)).take 2 = [40, 42] := by
        cases hX : L.drop (run blk L) with
        | nil => exact absurd hX hne
        | cons a r =>
          cases r with
          | nil => simp
          | cons b r => simp
      rw [skp_step (L ++ [32]), es, hd]
      by_cases h2 : (L.drop (run blk L)).take 2 = [40, 42]
      · rw [if_pos (ht.2 h2)]
        have e1 := skp_step L
        rw [if_pos h2] at e1
        cases hm : rmk (L.drop (run blk L)).length (L.drop (run blk L)) 0 with
        | some m =>
          have hb := rmk_bound _ _ _ _ hm
          rw [List.length_drop] at hb
          rw [hm] at e1
          simp only at e1
          rw [rmk_app [32] _ _ _ m hm (.inr h2) _ (Nat.le_refl _)]
          simp only
          have hd2 : (L ++ [32]).drop (run blk L + m) = L.drop (run blk L + m) ++ [32] := List.drop_append_of_le_length (by omega)
          rw [hd2]
          cases n with
          | zero => omega
          | succ n =>
            rw [skp_snoc n _ (by rw [List.length_drop]; omega), e1, List.length_drop]
            simp only
            split
            · rename_i h3
              rw [if_pos ⟨h3.1, by omega⟩]
              simp only [Prod.mk.injEq, and_true]
              omega
            · rename_i h3
              rw [if_neg (fun h4 => h3 ⟨h4.1, by omega⟩)]
        | none =>
          rw [hm] at e1
          simp only at e1
          have : rmk (L.drop (run blk L) ++ [32]).length (L.drop (run blk L) ++ [32]) 0 = none := by
            cases hX : L.drop (run blk L) with
            | nil => exact absurd hX hne
            | cons a r =>
              rw [hX] at hm h2
              cases r with
              | nil => simp at h2
              | cons b r =>
                simp only [List.take_succ_cons, List.take_zero, List.cons.injEq, and_true] at h2
                obtain ⟨rfl, rfl⟩ := h2
                simp only [List.length_cons, List.cons_append, List.length_append, List.length_nil] at hm ⊢
                unfold rmk at hm ⊢
                simp only [List.head?_cons, and_self, if_true, List.drop_succ_cons, List.drop_zero, Int.zero_add, Int.reduceEq, if_false, Option.map_eq_none_iff] at hm ⊢
                exact rmk_none (by decide) (by decide) (by decide) _ r 1 (by omega) hm (by decide) _ (by simp)
          rw [this, e1]
          simp
      · rw [if_neg (fun h3 => h2 (ht.1 h3))]
        have e1 := skp_step L
        rw [if_neg h2] at e1
        rw [e1, if_neg (fun h3 => hf h3.2)]

/-! ### words -/
def keys : List (List UInt8) := [[116, 121, 112, 101], [111, 102], [108, 101, 116], [114, 101, 99], [105, 110], [102, 117, 110], [105, 102], [116, 104, 101, 110], [101, 108, 115, 101], [109, 97, 116, 99, 104], [119, 105, 116, 104], [101, 110, 100], [114, 101, 102], [112, 114, 105, 110, 116], [114, 101, 97, 100], [114, 97, 105, 115, 101], [116, 114, 121], [116, 114, 117, 101], [102, 97, 108, 115, 101]]
def isKeyL (t : List UInt8) : Bool := keys.any (t == ·)
/-- Digits make a number that is not too great. -/
def valL : List UInt8 → Int → Bool
  | [], _ => true
  | b :: r, n => if n > Int.tdiv (4611686018427387903 - ((b.toNat : Int) - 48)) 10 then false else valL r (10 * n + ((b.toNat : Int) - 48))
def namL (L : List UInt8) : Int × List UInt8 := (if isUpperU (decL L).1 = true then 3 else if isKeyL (L.take (run lod L)) = true then 4 else 2, L.take (run lod L))
def mrkL (L : List UInt8) : Int × List UInt8 :=
  if L.take 2 = [58, 61] then (5, [58, 61]) else if L.take 2 = [45, 62] then (5, [45, 62]) else if L.head? = some 62 ∨ L.head? = some 58 then (0, []) else (5, L.take 1)
def wrdL (L : List UInt8) : Int × List UInt8 :=
  if clsF (decL L).1 = 1 then (if (decL L).1 = 39 then (0, []) else namL L)
  else if clsF (decL L).1 = 2 then (if valL (L.take (run dig L)) 0 = true then (1, L.take (run dig L)) else (0, []))
  else if clsF (decL L).1 = 4 then mrkL L else (0, [])

/-- What a word is, of what it hangs. -/
inductive IsW (L : List UInt8) : Int → List UInt8 → Prop
  | name (h1 : clsF (decL L).1 = 1) (h2 : (decL L).1 ≠ 39) : IsW L (namL L).1 (L.take (run lod L))
  | num (h1 : clsF (decL L).1 = 2) (h2 : valL (L.take (run dig L)) 0 = true) : IsW L 1 (L.take (run dig L))
  | asg (h1 : clsF (decL L).1 = 4) (h2 : L.take 2 = [58, 61]) : IsW L 5 [58, 61]
  | arr (h1 : clsF (decL L).1 = 4) (h2 : L.take 2 = [45, 62]) : IsW L 5 [45, 62]
  | mark (h1 : clsF (decL L).1 = 4) (h2 : L.take 2 ≠ [58, 61]) (h3 : L.take 2 ≠ [45, 62]) (h4 : ¬ (L.head? = some 62 ∨ L.head? = some 58)) : IsW L 5 (L.take 1)
theorem isW_of {L : List UInt8} (h : (wrdL L).1 ≠ 0) : IsW L (wrdL L).1 (wrdL L).2 := by
  unfold wrdL at h ⊢
  by_cases h1 : clsF (decL L).1 = 1
  · rw [if_pos h1] at h ⊢
    by_cases h2 : (decL L).1 = 39
    · rw [if_pos h2] at h; exact absurd rfl h
    · rw [if_neg h2]; exact .name h1 h2
  rw [if_neg h1] at h ⊢
  by_cases h2 : clsF (decL L).1 = 2
  · rw [if_pos h2] at h ⊢
    by_cases h3 : valL (L.take (run dig L)) 0 = true
    · rw [if_pos h3]; exact .num h2 h3
    · rw [if_neg h3] at h; exact absurd rfl h
  rw [if_neg h2] at h ⊢
  by_cases h3 : clsF (decL L).1 = 4
  · rw [if_pos h3] at h ⊢
    unfold mrkL at h ⊢
    by_cases h4 : L.take 2 = [58, 61]
    · rw [if_pos h4]; exact .asg h3 h4
    rw [if_neg h4] at h ⊢
    by_cases h5 : L.take 2 = [45, 62]
    · rw [if_pos h5]; exact .arr h3 h5
    rw [if_neg h5] at h ⊢
    by_cases h6 : L.head? = some 62 ∨ L.head? = some 58
    · rw [if_pos h6] at h; exact absurd rfl h
    · rw [if_neg h6]; exact .mark h3 h4 h5 h6
  · rw [if_neg h3] at h; exact absurd rfl h
theorem IsW.eq {L : List UInt8} {k : Int} {t : List UInt8} (h : IsW L k t) : wrdL L = (k, t) := by
  unfold wrdL
  cases h with
  | name h1 h2 => rw [if_pos h1, if_neg h2]; rfl
  | num h1 h2 => rw [if_neg (by rw [h1]; decide), if_pos h1, if_pos h2]
  | asg h1 h2 => rw [if_neg (by rw [h1]; decide), if_neg (by rw [h1]; decide), if_pos h1, mrkL, if_pos h2]
  | arr h1 h2 => rw [if_neg (by rw [h1]; decide), if_neg (by rw [h1]; decide), if_pos h1, mrkL, if_neg (by rw [h2]; decide), if_pos h2]
  | mark h1 h2 h3 h4 => rw [if_neg (by rw [h1]; decide), if_neg (by rw [h1]; decide), if_pos h1, mrkL, if_neg h2, if_neg h3, if_neg h4]
theorem IsW.kind {L : List UInt8} {k : Int} {t : List UInt8} (h : IsW L k t) : 1 ≤ k ∧ k ≤ 5 := by
  cases h with
  | name h1 h2 =>
    unfold namL
    simp only
    split
    · decide
    · split <;> decide
  | num h1 h2 => decide
  | asg h1 h2 => decide
  | arr h1 h2 => decide
  | mark h1 h2 h3 h4 => decide

theorem mark_byte {L : List UInt8} (hL : L ≠ []) (h : clsF (decL L).1 = 4) : ∃ b r, L = b :: r ∧ b.toNat < 128 ∧ clsF b.toNat = 4 := by
  have h1 := mark_lt (cls_mark h)
  obtain ⟨b, r, e, hb, _⟩ := decL_lt hL h1
  exact ⟨b, r, e, by omega, by rw [hb]; exact h⟩

theorem IsW.ne {L : List UInt8} {k : Int} {t : List UInt8} (hL : L ≠ []) (h : IsW L k t) : t ≠ [] ∧ t.length ≤ L.length ∧ L = t ++ L.drop t.length := by
  have hw := decL_width hL
  have key : ∀ may : Nat → Bool, may (decL L).1 = true → L.take (run may L) ≠ [] ∧ (L.take (run may L)).length ≤ L.length ∧ L = L.take (run may L) ++ L.drop (L.take (run may L)).length := by
    intro may hm
    have h1 : 1 ≤ run may L := by rw [run_step hL, if_pos hm]; omega
    have h2 := run_len (may := may) L
    have e : (L.take (run may L)).length = run may L := by rw [List.length_take]; omega
    refine ⟨fun e2 => ?_, by omega, by rw [e, List.take_append_drop]⟩
    rw [e2] at e
    simp at e
    omega
  cases h with
  | name h1 h2 => exact key lod (by simp [lod, h1])
  | num h1 h2 => exact key dig (by simp [dig, h1])
  | asg h1 h2 =>
    obtain ⟨b, r, rfl, _⟩ := mark_byte hL h1
    cases r with
    | nil => simp at h2
    | cons c r =>
      simp only [List.take_succ_cons, List.take_zero, List.cons.injEq, and_true] at h2
      obtain ⟨rfl, rfl⟩ := h2
      simp
  | arr h1 h2 =>
    obtain ⟨b, r, rfl, _⟩ := mark_byte hL h1
    cases r with
    | nil => simp at h2
    | cons c r =>
      simp only [List.take_succ_cons, List.take_zero, List.cons.injEq, and_true] at h2
      obtain ⟨rfl, rfl⟩ := h2
      simp
  | mark h1 h2 h3 h4 =>
    obtain ⟨b, r, rfl, _⟩ := mark_byte hL h1
    simp

theorem IsW.cls {L : List UInt8} {k : Int} {t : List UInt8} (h : IsW L k t) : clsF (decL L).1 = 1 ∨ clsF (decL L).1 = 2 ∨ clsF (decL L).1 = 4 := by
  cases h with
  | name h1 h2 => exact .inl h1
  | num h1 h2 => exact .inr (.inl h1)
  | asg h1 h2 => exact .inr (.inr h1)
  | arr h1 h2 => exact .inr (.inr h1)
  | mark h1 h2 h3 h4 => exact .inr (.inr h1)
theorem IsW.one {L : List UInt8} {k : Int} {t : List UInt8} (h : IsW L k t) (h1 : clsF (decL L).1 = 4) : t = [58, 61] ∨ t = [45, 62] ∨ t.length ≤ 1 := by
  cases h with
  | name h2 _ => rw [h1] at h2; exact absurd h2 (by decide)
  | num h2 _ => rw [h1] at h2; exact absurd h2 (by decide)
  | asg _ _ => exact .inl rfl
  | arr _ _ => exact .inr (.inl rfl)
  | mark _ _ _ _ => exact .inr (.inr (by simp [List.length_take]; omega))

/-- A word's text, with nothing or a blank behind it. -/
theorem IsW.alone {t R : List UInt8} {k : Int} (hL : t ++ R ≠ []) (h : IsW (t ++ R) k t) {R' : List UInt8} (hR : R' = [] ∨ ∃ r, R' = 32 :: r) : IsW (t ++ R') k t := by
  have ht := (h.ne hL).1
  have hR1 : R' = [] ∨ ∃ b r, R' = b :: r ∧ b.toNat < 128 := by
    rcases hR with rfl | ⟨r, rfl⟩
    · exact .inl rfl
    · exact .inr ⟨32, r, rfl, by decide⟩
  have key : ∀ may : Nat → Bool, may runeError = false → may 32 = false → may (decL (t ++ R)).1 = true → (t ++ R).take (run may (t ++ R)) = t → (decL (t ++ R')).1 = (decL (t ++ R)).1 ∧ (t ++ R').take (run may (t ++ R')) = t := by
    intro may he h32 hm htk
    have hl := run_len (may := may) (t ++ R)
    have e : run may (t ++ R) = t.length := by
      have := congrArg List.length htk
      rw [List.length_take] at this
      omega
    have e1 := run_pre he R _ t (Nat.le_refl _) e
    have e2 := run_app (may := may) hR1 _ t (Nat.le_refl _) e1
    have e3 : run may R' = 0 := by
      rcases hR with rfl | ⟨r, rfl⟩
      · rfl
      · exact run_stop (by decide) h32
    rw [e3, Nat.add_zero] at e2
    have hw : (decL (t ++ R)).2 ≤ t.length := by
      rw [run_step hL, if_pos hm] at e
      omega
    have hne : (decL (t ++ R)).1 ≠ runeError := fun e => by rw [e, he] at hm; cases hm
    refine ⟨?_, by rw [e2, List.take_left]⟩
    rw [decL_left ht hR1, decL_pre ht hw hne]
  generalize hM : t ++ R = M at h hL key
  cases h with
  | name h1 h2 =>
    obtain ⟨e1, e2⟩ := key lod lod_err lod_32 (by simp [lod, h1]) rfl
    have := IsW.name (L := M.take (run lod M) ++ R') (by rw [e1]; exact h1) (by rw [e1]; exact h2)
    unfold namL at this ⊢
    rw [e1, e2] at this
    exact this
  | num h1 h2 =>
    obtain ⟨e1, e2⟩ := key dig dig_err dig_32 (by simp [dig, h1]) rfl
    have := IsW.num (L := M.take (run dig M) ++ R') (by rw [e1]; exact h1) (by rw [e2]; exact h2)
    rw [e2] at this
    exact this
  | asg h1 h2 => exact .asg (by rw [List.cons_append, decL_ascii (by decide)]; decide +kernel) rfl
  | arr h1 h2 => exact .arr (by rw [List.cons_append, decL_ascii (by decide)]; decide +kernel) rfl
  | mark h1 h2 h3 h4 =>
    obtain ⟨b, r, rfl, hb, hc⟩ := mark_byte hL h1
    simp only [List.take_succ_cons, List.take_zero, List.head?_cons, Option.some.injEq] at h2 h3 h4 ⊢
    have ht2 : ∀ x : UInt8, ([b] ++ R').take 2 = [b] ∨ ([b] ++ R').take 2 = [b, 32] := by
      intro x
      rcases hR with rfl | ⟨r, rfl⟩
      · exact .inl rfl
      · exact .inr rfl
    refine .mark (by rw [List.singleton_append, decL_ascii hb]; exact hc) ?_ ?_ (by simpa using h4)
    · rcases ht2 0 with e | e <;> rw [e] <;> simp
    · rcases ht2 0 with e | e <;> rw [e] <;> simp

/-- The same with one blank more behind. -/
theorem wrd_snoc {L : List UInt8} (hL : L ≠ []) : wrdL (L ++ [32]) = wrdL L := by
  have e1 : decL (L ++ [32]) = decL L := decL_left hL (.inr ⟨32, [], rfl, by decide⟩)
  have key : ∀ may : Nat → Bool, may 32 = false → (L ++ [32]).take (run may (L ++ [32])) = L.take (run may L) := by
    intro may h32
    have e := run_snoc (may := may) (b := 32) (by decide) _ L (Nat.le_refl _)
    rw [show run may [32] = 0 from run_stop (by decide) h32] at e
    have hl := run_len (may := may) L
    have e2 : run may (L ++ [32]) = run may L := by rw [e]; split <;> omega
    rw [e2, List.take_append_of_le_length hl]
  unfold wrdL namL
  rw [e1, key lod lod_32, key dig dig_32]
  split
  · rfl
  · split
    · rfl
    · split
      · obtain ⟨b, r, rfl⟩ : ∃ b r, L = b :: r := by
          cases L with
          | nil => exact absurd rfl hL
          | cons b r => exact ⟨b, r, rfl⟩
        unfold mrkL
        cases r with
        | nil => simp
        | cons c r => simp
      · rfl

/-- Ahead of a word nothing is skipped. -/
theorem skp_word {t R : List UInt8} {k : Int} (hL : t ++ R ≠ []) (h : IsW (t ++ R) k t) (hR : R = [] ∨ ∃ r, R = 32 :: r) : skp (t ++ R) = (0, true) := by
  have hc : clsF (decL (t ++ R)).1 ≠ 3 := by
    rcases h.cls with h1 | h1 | h1 <;> rw [h1] <;> decide
  have e0 : run blk (t ++ R) = 0 := by rw [run_step hL, if_neg (by simp [blk, hc])]
  have ht := (h.ne hL).1
  rw [skp_step, e0, List.drop_zero, if_neg]
  intro h2
  obtain ⟨b, t', rfl⟩ : ∃ b r, t = b :: r := by
    cases t with
    | nil => exact absurd rfl ht
    | cons b r => exact ⟨b, r, rfl⟩
  have hb : b = 40 := by
    rw [List.cons_append, List.take_succ_cons] at h2
    exact (List.cons.inj h2).1
  subst hb
  have hd : clsF (decL (40 :: t' ++ R)).1 = 4 := by rw [List.cons_append, decL_ascii (by decide)]; decide +kernel
  have ht1 : t' = [] := by
    rcases h.one hd with e | e | e
    · simp at e
    · simp at e
    · exact List.eq_nil_of_length_eq_zero (by simpa using e)
  subst ht1
  rcases hR with rfl | ⟨r, rfl⟩
  · simp at h2
  · simp at h2
end Go.Pg
