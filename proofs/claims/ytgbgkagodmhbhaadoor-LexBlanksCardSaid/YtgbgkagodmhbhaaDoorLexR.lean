/- Layer 2: all words of a text; they can be read again; blanks and remarks change nothing. -/
import Derived.Test.YtgbgkagodmhbhaaDoorLexQ
namespace Go.Pg
open Go.Proofs Go.Utf8 Go.Lib

structure Wd where
  k : Int
  t : List UInt8
  fr : Nat
  to : Nat

/-- The words of the rest of a text that stands at a byte, 'c' words behind others; or the error, and where. -/
def lexL : Nat → List UInt8 → Nat → Nat → Except (Int × Nat) (List Wd)
  | 0, _, _, _ => .ok []
  | f + 1, L, at', c =>
    if (skp L).2 = true then
      if L.drop (skp L).1 = [] then .ok []
      else if (wrdL (L.drop (skp L).1)).1 = 0 then .error (3, at' + (skp L).1)
      else if 2000 ≤ c then .error (2, at' + (skp L).1)
      else match lexL f ((L.drop (skp L).1).drop (wrdL (L.drop (skp L).1)).2.length) (at' + (skp L).1 + (wrdL (L.drop (skp L).1)).2.length) (c + 1) with
        | .ok l => .ok (⟨(wrdL (L.drop (skp L).1)).1, (wrdL (L.drop (skp L).1)).2, at' + (skp L).1, at' + (skp L).1 + (wrdL (L.drop (skp L).1)).2.length⟩ :: l)
        | .error e => .error e
    else .error (3, at' + (skp L).1)

theorem lexL_fuel : ∀ (f f' : Nat) (L : List UInt8) (at' c : Nat), L.length < f → L.length < f' → lexL f L at' c = lexL f' L at' c
  | 0, _, L, _, _, h, _ => by omega
  | _ + 1, 0, L, _, _, _, h => by omega
  | f + 1, f' + 1, L, at', c, h1, h2 => by
    have hs := skp_len L
    unfold lexL
    by_cases h3 : (skp L).2 = true
    · rw [if_pos h3, if_pos h3]
      by_cases h4 : L.drop (skp L).1 = []
      · rw [if_pos h4, if_pos h4]
      · rw [if_neg h4, if_neg h4]
        by_cases h5 : (wrdL (L.drop (skp L).1)).1 = 0
        · rw [if_pos h5, if_pos h5]
        · rw [if_neg h5, if_neg h5]
          have hn := (isW_of h5).ne h4
          have hl : 1 ≤ (wrdL (L.drop (skp L).1)).2.length := List.length_pos_iff.2 hn.1
          have hl2 : (L.drop (skp L).1).length = L.length - (skp L).1 := List.length_drop
          rw [lexL_fuel f f' _ _ _ (by rw [List.length_drop]; omega) (by rw [List.length_drop]; omega)]
    · rw [if_neg h3, if_neg h3]

def lexA (L : List UInt8) : Except (Int × Nat) (List Wd) := lexL (L.length + 1) L 0 0

/-- How words stand in a text. -/
def chain (S : List UInt8) : Nat → List Wd → Prop
  | _, [] => True
  | a, w :: r => a ≤ w.fr ∧ w.to = w.fr + w.t.length ∧ w.t ≠ [] ∧ w.to ≤ S.length ∧ S.drop w.fr = w.t ++ S.drop w.to ∧ IsW (S.drop w.fr) w.k w.t ∧ chain S w.to r

theorem lexL_chain (S : List UInt8) : ∀ (f at' c : Nat) (ws : List Wd), at' ≤ S.length → lexL f (S.drop at') at' c = .ok ws → chain S at' ws ∧ (ws = [] ∨ c + ws.length ≤ 2000)
  | 0, at', c, ws, _, h => by
    cases h
    exact ⟨trivial, .inl rfl⟩
  | f + 1, at', c, ws, ha, h => by
    have hs := skp_len (S.drop at')
    unfold lexL at h
    split at h
    · split at h
      · cases h
        exact ⟨trivial, .inl rfl⟩
      · rename_i h4
        split at h
        · cases h
        · rename_i h5
          split at h
          · cases h
          · rename_i h6
            have hn := (isW_of h5).ne h4
            have hw := isW_of h5
            rw [List.length_drop] at hs
            simp only [List.drop_drop, List.length_drop] at h hn hw h4
            generalize (skp (S.drop at')).1 = k at h hn hw h4 hs
            generalize hk : (wrdL (S.drop (at' + k))).1 = kd at h hw
            generalize ht : (wrdL (S.drop (at' + k))).2 = t at h hn hw
            have hto : at' + k + t.length ≤ S.length := by omega
            split at h
            · rename_i l hl
              cases h
              obtain ⟨i1, i2⟩ := lexL_chain S f _ _ _ hto hl
              refine ⟨⟨by simp only; omega, rfl, hn.1, hto, hn.2.2, hw, i1⟩, .inr ?_⟩
              rcases i2 with rfl | i2
              · simp; omega
              · simp only [List.length_cons]; omega
            · cases h
    · cases h

/-- Words, each with a blank ahead. -/
def glue : List Wd → List UInt8
  | [] => []
  | w :: r => 32 :: (w.t ++ glue r)
def Good (w : Wd) : Prop := ∃ R, w.t ++ R ≠ [] ∧ IsW (w.t ++ R) w.k w.t
theorem chain_good {S : List UInt8} : ∀ {a : Nat} {ws : List Wd}, chain S a ws → ∀ w ∈ ws, Good w
  | _, [], _, w, hw => by cases hw
  | _, x :: r, ⟨_, _, h3, _, h5, h6, h7⟩, w, hw => by
    rcases List.mem_cons.1 hw with rfl | hw
    · refine ⟨S.drop w.to, by simp [h3], ?_⟩
      rw [← h5]
      exact h6
    · exact chain_good h7 w hw
theorem glue_hd (ws : List Wd) : glue ws = [] ∨ ∃ r, glue ws = 32 :: r := by
  cases ws with
  | nil => exact .inl rfl
  | cons w r => exact .inr ⟨_, rfl⟩

/-- Words that are put together are parted alike. -/
theorem lexL_glue : ∀ (ws : List Wd) (f at' c : Nat), (∀ w ∈ ws, Good w) → (ws = [] ∨ c + ws.length ≤ 2000) → (glue ws).length < f → ∃ ws', lexL f (glue ws) at' c = .ok ws' ∧ ws'.map (fun w => (w.k, w.t)) = ws.map (fun w => (w.k, w.t))
  | [], f, at', c, _, _, hf => by
    obtain ⟨g, rfl⟩ : ∃ g, f = g + 1 := ⟨f - 1, by omega⟩
    refine ⟨[], ?_, rfl⟩
    unfold lexL
    have e : skp (glue []) = (0, true) := rfl
    rw [e]
    rfl
  | w :: r, f, at', c, hg, hc, hf => by
    obtain ⟨g, rfl⟩ : ∃ g, f = g + 1 := ⟨f - 1, by omega⟩
    obtain ⟨R, hne, hw⟩ := hg w (by simp)
    have ht := (hw.ne hne).1
    have hw' := hw.alone hne (glue_hd r)
    have hne' : w.t ++ glue r ≠ [] := by simp [ht]
    have es : skp (32 :: (w.t ++ glue r)) = (1, true) := by rw [skp_32, skp_word hne' hw' (glue_hd r)]
    have hlen : (glue (w :: r)).length = 1 + w.t.length + (glue r).length := by simp [glue]; omega
    have hcc : c + 1 + r.length ≤ 2000 := by
      rcases hc with hc | hc
      · cases hc
      · simp only [List.length_cons] at hc; omega
    obtain ⟨ws', h1, h2⟩ := lexL_glue r g (at' + 1 + w.t.length) (c + 1) (fun x hx => hg x (by simp [hx])) (.inr hcc) (by omega)
    refine ⟨⟨w.k, w.t, at' + 1, at' + 1 + w.t.length⟩ :: ws', ?_, by simp [h2]⟩
    unfold glue lexL
    rw [es]
    simp only [if_true, List.drop_succ_cons, List.drop_zero]
    rw [if_neg hne', hw'.eq]
    have hk := hw.kind
    simp only
    rw [if_neg (by omega), if_neg (by omega), List.drop_left, h1]

/-- A word alone. -/
theorem lexA_word {w : Wd} (hg : Good w) : lexA w.t = .ok [⟨w.k, w.t, 0, w.t.length⟩] := by
  obtain ⟨R, hne, hw⟩ := hg
  have ht := (hw.ne hne).1
  have hw' := hw.alone hne (.inl rfl)
  have hs := skp_word (R := []) (by simp [ht]) hw' (.inl rfl)
  rw [List.append_nil] at hw' hs
  have hk := hw.kind
  unfold lexA lexL
  rw [hs]
  simp only [if_true, List.drop_zero]
  rw [if_neg ht, hw'.eq]
  simp only
  rw [if_neg (by omega), if_neg (by omega), List.drop_length]
  obtain ⟨g, hg⟩ : ∃ g, w.t.length = g + 1 := ⟨w.t.length - 1, by have := List.length_pos_iff.2 ht; omega⟩
  rw [hg]
  unfold lexL
  rw [show skp [] = (0, true) from rfl]
  simp

/-! ### blanks and remarks ahead, a blank behind -/
def shw (δ : Nat) (w : Wd) : Wd := ⟨w.k, w.t, w.fr + δ, w.to + δ⟩
def shr (δ : Nat) : Except (Int × Nat) (List Wd) → Except (Int × Nat) (List Wd)
  | .ok l => .ok (l.map (shw δ))
  | .error (e, p) => .error (e, p + δ)

theorem lexL_snoc (δ : Nat) : ∀ (f f' : Nat) (L : List UInt8) (at' c : Nat), L.length < f → L.length + 1 < f' → lexL f' (L ++ [32]) (at' + δ) c = shr δ (lexL f L at' c)
  | 0, _, L, _, _, h, _ => by omega
  | _ + 1, 0, L, _, _, _, h => by omega
  | f + 1, f' + 1, L, at', c, h1, h2 => by
    have hs := skp_len L
    have hd : (L ++ [32]).drop (skp L).1 = L.drop (skp L).1 ++ [32] := List.drop_append_of_le_length hs
    have es := skp_snoc _ L (Nat.le_refl _)
    unfold lexL
    by_cases h3 : (skp L).2 = true
    · by_cases h4 : L.drop (skp L).1 = []
      · have h5 : (skp L).1 = L.length := by
          have := congrArg List.length h4
          rw [List.length_drop] at this
          simp at this
          omega
        rw [if_pos ⟨h3, h5⟩] at es
        rw [es, if_pos h3, if_pos h4]
        simp only [if_true]
        rw [if_pos (List.drop_of_length_le (by simp))]
        rfl
      · have h5 : (skp L).1 ≠ L.length := fun e => h4 (by rw [e]; exact List.drop_length)
        rw [if_neg (fun h => h5 h.2)] at es
        rw [es, if_pos h3, if_pos h3, hd, if_neg (by simp), if_neg h4, wrd_snoc h4]
        by_cases h6 : (wrdL (L.drop (skp L).1)).1 = 0
        · rw [if_pos h6, if_pos h6]
          simp only [shr]
          congr 2
          omega
        · rw [if_neg h6, if_neg h6]
          by_cases h7 : 2000 ≤ c
          · rw [if_pos h7, if_pos h7]
            simp only [shr]
            congr 2
            omega
          · rw [if_neg h7, if_neg h7]
            have hn := (isW_of h6).ne h4
            have hl : 1 ≤ (wrdL (L.drop (skp L).1)).2.length := List.length_pos_iff.2 hn.1
            have hl2 : (L.drop (skp L).1).length = L.length - (skp L).1 := List.length_drop
            rw [List.drop_append_of_le_length hn.2.1, show at' + δ + (skp L).1 + (wrdL (L.drop (skp L).1)).2.length = at' + (skp L).1 + (wrdL (L.drop (skp L).1)).2.length + δ by omega,
              lexL_snoc δ f f' _ _ _ (by rw [List.length_drop]; omega) (by rw [List.length_drop]; omega), show at' + δ + (skp L).1 = at' + (skp L).1 + δ by omega]
            cases lexL f ((L.drop (skp L).1).drop (wrdL (L.drop (skp L).1)).2.length) (at' + (skp L).1 + (wrdL (L.drop (skp L).1)).2.length) (c + 1) with
            | ok l => rfl
            | error e => rfl
    · rw [if_neg (fun h => h3 h.1)] at es
      rw [es, if_neg h3, if_neg h3]
      simp only [shr]
      congr 2
      omega

def remA : List UInt8 := [40, 42, 32, 120, 32, 40, 42, 32, 42, 41, 32, 42, 41]
theorem skp_remA (X : List UInt8) : skp (remA ++ X) = ((skp X).1 + 13, (skp X).2) := by
  have e0 : run blk (remA ++ X) = 0 := run_stop (b := 40) (by decide) (by decide +kernel)
  rw [skp_step, e0, List.drop_zero, if_pos (by rfl), rmk_app X 13 remA 0 13 (by decide) (.inr rfl) _ (Nat.le_refl _)]
  simp only [Nat.zero_add]
  rw [show (remA ++ X).drop 13 = X from rfl, Nat.add_comm]
theorem lexA_blanks (n : Nat) (L : List UInt8) : lexA (remA ++ List.replicate n 32 ++ L ++ [32]) = shr (13 + n) (lexA L) := by
  unfold lexA
  have e0 := lexL_snoc (13 + n) (L.length + 1) (L.length + 2) L 0 0 (by omega) (by omega)
  rw [Nat.zero_add] at e0
  rw [← e0]
  rw [List.append_assoc, List.append_assoc]
  have e : skp (remA ++ (List.replicate n 32 ++ (L ++ [32]))) = ((skp (L ++ [32])).1 + (13 + n), (skp (L ++ [32])).2) := by
    rw [skp_remA, skp_32s]
    simp only [Prod.mk.injEq, and_true]
    omega
  have hd : (remA ++ (List.replicate n 32 ++ (L ++ [32]))).drop ((skp (L ++ [32])).1 + (13 + n)) = (L ++ [32]).drop (skp (L ++ [32])).1 := by
    rw [← List.append_assoc, Nat.add_comm, ← List.drop_drop]
    congr 1
    rw [List.drop_append_of_le_length (by simp [remA]; omega), List.drop_of_length_le (by simp [remA]; omega)]
    rfl
  have hl : (remA ++ (List.replicate n 32 ++ (L ++ [32]))).length = 13 + n + (L.length + 1) := by simp [remA]; omega
  rw [hl]
  generalize hX : L ++ [32] = X at e hd ⊢
  have hXl : X.length = L.length + 1 := by rw [← hX]; simp
  have hs := skp_len X
  conv => lhs; unfold lexL
  conv => rhs; unfold lexL
  rw [e]
  simp only
  rw [hd, Nat.zero_add, Nat.zero_add]
  by_cases h3 : (skp X).2 = true
  · rw [if_pos h3, if_pos h3]
    by_cases h4 : X.drop (skp X).1 = []
    · rw [if_pos h4, if_pos h4]
    · rw [if_neg h4, if_neg h4]
      by_cases h6 : (wrdL (X.drop (skp X).1)).1 = 0
      · rw [if_pos h6, if_pos h6, Nat.add_comm]
      · rw [if_neg h6, if_neg h6, if_neg (by decide), if_neg (by decide)]
        have hn := (isW_of h6).ne h4
        have hl1 : 1 ≤ (wrdL (X.drop (skp X).1)).2.length := List.length_pos_iff.2 hn.1
        have hl2 : (X.drop (skp X).1).length = X.length - (skp X).1 := List.length_drop
        rw [lexL_fuel (13 + n + (L.length + 1)) (L.length + 1) _ _ _ (by rw [List.length_drop]; omega) (by rw [List.length_drop]; omega), Nat.add_comm (skp X).1 (13 + n)]
  · rw [if_neg h3, if_neg h3, Nat.add_comm]

/-- A number's word ends where digits end. -/
theorem num_end {S : List UInt8} {w : Wd} (h : IsW (S.drop w.fr) w.k w.t) (h5 : S.drop w.fr = w.t ++ S.drop w.to) (hk : w.k = 1) {b : UInt8} {r : List UInt8} (hd : S.drop w.to = b :: r) : ¬ (48 ≤ b.toNat ∧ b.toNat ≤ 57) := by
  intro hb
  obtain ⟨k, t, fr, to⟩ := w
  simp only at h h5 hk hd
  subst hk
  have key : t = (S.drop fr).take (run dig (S.drop fr)) := by
    generalize hk : (1 : Int) = k at h
    cases h with
    | name h1 h2 =>
      exfalso
      unfold namL at hk
      simp only at hk
      split at hk
      · exact absurd hk (by decide)
      · split at hk <;> exact absurd hk (by decide)
    | num h1 h2 => rfl
    | asg _ _ => exact absurd hk (by decide)
    | arr _ _ => exact absurd hk (by decide)
    | mark _ _ _ _ => exact absurd hk (by decide)
  have hl := run_len (may := dig) (S.drop fr)
  have e : t.length = run dig (S.drop fr) := by
    have := congrArg List.length key
    rw [List.length_take] at this
    omega
  have e2 : (S.drop fr).drop (run dig (S.drop fr)) = b :: r := by
    rw [← e]
    conv => lhs; rw [h5]
    rw [List.drop_left, hd]
  have := run_max (may := dig) _ (S.drop fr) (Nat.le_refl _) b r e2 (by omega)
  rw [dig_digit hb] at this
  cases this
end Go.Pg
