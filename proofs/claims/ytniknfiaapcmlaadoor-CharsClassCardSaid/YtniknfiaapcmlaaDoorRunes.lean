/- unicode's two predicates, as tables; a rune written and read again. -/
import Derived.Test.YtniknfiaapcmlaaDoorChars
namespace Go.Pg
open Go.Proofs Go.Utf8 Go.Lib

theorem getD_memA {T : Array Rg} {i : Nat} (h : i < T.size) : T.getD i (0, 0, 0) ∈ T.toList := by
  have : T.getD i (0, 0, 0) = T[i] := by simp [Array.getD, h]
  rw [this]
  exact Array.getElem_mem_toList h

theorem lin_sound {T : Array Rg} {r : Nat} : ∀ f i, linGo T r f i = true → ∃ x ∈ T.toList, x.1 ≤ r ∧ r ≤ x.2.1 ∧ x.has r = true
  | 0, i, h => by simp [linGo] at h
  | f + 1, i, h => by
    unfold linGo at h
    by_cases hi : i < T.size
    · rw [if_pos hi] at h
      have hm := getD_memA hi
      generalize T.getD i (0, 0, 0) = x at h hm
      by_cases h1 : r < x.1
      · rw [if_pos h1] at h; simp at h
      · rw [if_neg h1] at h
        by_cases h2 : r ≤ x.2.1
        · rw [if_pos h2] at h
          exact ⟨x, hm, by omega, h2, h⟩
        · rw [if_neg h2] at h
          exact lin_sound f (i + 1) h
    · rw [if_neg hi] at h; simp at h
theorem bin_sound {T : Array Rg} {r : Nat} : ∀ f lo hi, hi ≤ T.size → binGo T r f lo hi = true → ∃ x ∈ T.toList, x.1 ≤ r ∧ r ≤ x.2.1 ∧ x.has r = true
  | 0, lo, hi, _, h => by simp [binGo] at h
  | f + 1, lo, hi, hs, h => by
    unfold binGo at h
    by_cases hlt : lo < hi
    · rw [if_pos hlt] at h
      have hm := getD_memA (T := T) (i := (lo + hi) / 2) (by omega)
      generalize T.getD ((lo + hi) / 2) (0, 0, 0) = x at h hm
      by_cases h1 : x.1 ≤ r ∧ r ≤ x.2.1
      · rw [if_pos h1] at h
        exact ⟨x, hm, h1.1, h1.2, h⟩
      · rw [if_neg h1] at h
        by_cases h2 : r < x.1
        · rw [if_pos h2] at h
          exact bin_sound f _ _ (by omega) h
        · rw [if_neg h2] at h
          exact bin_sound f _ _ hs h
    · rw [if_neg hlt] at h; simp at h
theorem is16_sound {T : Array Rg} {r : Nat} (h : is16Go T r = true) : ∃ x ∈ T.toList, x.1 ≤ r ∧ r ≤ x.2.1 ∧ x.has r = true := by
  unfold is16Go at h
  split at h
  · exact lin_sound _ _ h
  · exact bin_sound _ _ _ (Nat.le_refl _) h
theorem is32_sound {T : Array Rg} {r : Nat} (h : is32Go T r = true) : ∃ x ∈ T.toList, x.1 ≤ r ∧ r ≤ x.2.1 ∧ x.has r = true := by
  unfold is32Go at h
  split at h
  · exact lin_sound _ _ h
  · exact bin_sound _ _ _ (Nat.le_refl _) h
theorem excl_sound {T : RTab} {r : Int} (hm : (T.r16.getD (T.r16.size - 1) (0, 0, 0)).2.1 < 65536) (h : exclGo T r = true) : ∃ x ∈ T.r16.toList ++ T.r32.toList, x.1 ≤ u32Of r ∧ u32Of r ≤ x.2.1 ∧ x.has (u32Of r) = true := by
  unfold exclGo at h
  split at h
  · rename_i hc
    rw [Nat.mod_eq_of_lt (by omega)] at h
    obtain ⟨x, hx, h1⟩ := is16_sound h
    refine ⟨x, List.mem_append_left _ ?_, h1⟩
    rw [Array.toList_extract] at hx
    exact List.mem_of_mem_drop (List.mem_of_mem_take (by simpa [List.extract] using hx))
  · split at h
    · obtain ⟨x, hx, h1⟩ := is32_sound h
      exact ⟨x, List.mem_append_right _ hx, h1⟩
    · simp at h

/-- No letter is out of the runes. -/
def okRg (x : Rg) : Bool := (decide (x.2.1 < 55296) || decide (57343 < x.1)) && decide (x.2.1 ≤ 1114111)
theorem letter_rgs : (letterT.r16.toList ++ letterT.r32.toList).all okRg = true := by kernel_rfl
theorem letter_max : (letterT.r16.getD (letterT.r16.size - 1) (0, 0, 0)).2.1 < 65536 := by decide +kernel
theorem upper_max : (upperT.r16.getD (upperT.r16.size - 1) (0, 0, 0)).2.1 < 65536 := by decide +kernel
theorem letter_valid {r : Int} (hr : -2147483648 ≤ r ∧ r ≤ 2147483647) (h : isLetterU r = true) : 0 ≤ r ∧ r ≤ 1114111 ∧ ¬ (55296 ≤ r ∧ r < 57344) := by
  unfold isLetterU at h
  split at h
  · rename_i hl
    unfold latin1 at hl
    simp only [decide_eq_true_eq] at hl
    omega
  · obtain ⟨x, hx, h1, h2, _⟩ := excl_sound letter_max h
    have := List.all_eq_true.1 letter_rgs x hx
    unfold okRg at this
    simp only [Bool.and_eq_true, Bool.or_eq_true, decide_eq_true_eq] at this
    unfold u32Of at h1 h2
    omega

/-- Upper-case letters are letters. -/
def upRg (x : Rg) : Bool := decide (1 ≤ x.2.2) && decide (x.2.1 ≤ 1114111) && (List.range ((x.2.1 - x.1) / x.2.2 + 1)).all fun k => decide (x.1 + k * x.2.2 ≤ 255) || exclGo letterT ((x.1 + k * x.2.2 : Nat) : Int)
set_option maxRecDepth 100000 in
theorem upper_rgs : (upperT.r16.toList ++ upperT.r32.toList).all upRg = true := by kernel_rfl
theorem upper_letter {r : Int} (hr : -2147483648 ≤ r ∧ r ≤ 2147483647) (h : isUpperU r = true) : isLetterU r = true := by
  unfold isUpperU at h
  unfold isLetterU
  split at h
  · rename_i hl
    rw [if_pos hl]
    unfold isLetterL
    rw [h]
    rfl
  · rename_i hl
    rw [if_neg hl]
    obtain ⟨x, hx, h1, h2, h3⟩ := excl_sound upper_max h
    have := List.all_eq_true.1 upper_rgs x hx
    unfold upRg at this
    simp only [Bool.and_eq_true, decide_eq_true_eq] at this
    obtain ⟨⟨hs, hm⟩, hall⟩ := this
    have hu : u32Of r = r.toNat ∧ 0 ≤ r := by unfold u32Of at h2 ⊢; omega
    rw [hu.1] at h1 h2 h3
    have hmod : (r.toNat - x.1) % x.2.2 = 0 := by
      unfold Rg.has at h3
      simp only [Bool.or_eq_true, beq_iff_eq] at h3
      rcases h3 with h3 | h3
      · rw [h3]; exact Nat.mod_one _
      · exact h3
    have hdiv := Nat.div_add_mod (r.toNat - x.1) x.2.2
    rw [hmod, Nat.add_zero, Nat.mul_comm] at hdiv
    have hk := List.all_eq_true.1 hall ((r.toNat - x.1) / x.2.2) (by
      rw [List.mem_range]
      have := Nat.div_le_div_right (c := x.2.2) (show r.toNat - x.1 ≤ x.2.1 - x.1 by omega)
      omega)
    have he : x.1 + (r.toNat - x.1) / x.2.2 * x.2.2 = r.toNat := by omega
    rw [he] at hk
    simp only [Bool.or_eq_true, decide_eq_true_eq] at hk
    rcases hk with hk | hk
    · exfalso
      apply hl
      unfold latin1
      simp only [decide_eq_true_eq]
      omega
    · rw [Int.toNat_of_nonneg hu.2] at hk
      exact hk

/-- A rune that is written is read again. -/
theorem byteN_mk (l : List UInt8) (i : Nat) : byteN ⟨l.toArray⟩ i = ((l[i]?).getD 0).toNat := rfl
theorem enc_size (r : Int) : 1 ≤ (Utf8.encode r).size := by
  unfold Utf8.encode
  simp only
  repeat' split
  all_goals simp [ByteArray.size]

theorem dec1 {g : Nat → Nat} {n c : Nat} (h0 : g 0 = c) (hc : c < 128) : (dec g n 0).1 = c := by
  unfold dec
  simp only [h0]
  rw [if_pos hc]
theorem dec2 {g : Nat → Nat} {n c : Nat} (h0 : g 0 = 192 + c / 64) (h1 : g 1 = 128 + c % 64) (hn : n = 2) (hc : 128 ≤ c ∧ c < 2048) : (dec g n 0).1 = c := by
  subst hn
  have c1 : (decide (0 + 1 < 2) && (g (0 + 1) / 64 == 2)) = true := by rw [Nat.zero_add, h1]; simp; omega
  have b1 : ((192 + c / 64) / 32 == 6) = true := by simp; omega
  have ec : (192 + c / 64) % 32 * 64 + (128 + c % 64) % 64 = c := by omega
  unfold dec
  simp only [c1, h0, b1]
  rw [if_neg (by omega), Nat.zero_add, h1, ec]
  simp only [Bool.and_self, if_true]
  rw [if_pos (by omega)]
theorem dec3 {g : Nat → Nat} {n c : Nat} (h0 : g 0 = 224 + c / 4096) (h1 : g 1 = 128 + c / 64 % 64) (h2 : g 2 = 128 + c % 64) (hn : n = 3) (hc : 2048 ≤ c ∧ c < 65536) (hv : Utf8.valid (c : Int) = true) : (dec g n 0).1 = c := by
  subst hn
  have c1 : (decide (0 + 1 < 3) && (g (0 + 1) / 64 == 2)) = true := by rw [Nat.zero_add, h1]; simp; omega
  have c2 : (decide (0 + 2 < 3) && (g (0 + 2) / 64 == 2)) = true := by rw [Nat.zero_add, h2]; simp; omega
  have b0 : ((224 + c / 4096) / 32 == 6) = false := by simp; omega
  have b1 : ((224 + c / 4096) / 16 == 14) = true := by simp; omega
  have ec : (224 + c / 4096) % 16 * 4096 + (128 + c / 64 % 64) % 64 * 64 + (128 + c % 64) % 64 = c := by omega
  have hd : decide (c ≥ 2048) = true := by simp; omega
  unfold dec
  simp only [c1, c2, h0, b0, b1]
  rw [if_neg (by omega), Nat.zero_add, Nat.zero_add, h1, h2, ec, hv, hd]
  simp only [Bool.and_self, Bool.false_and, Bool.false_eq_true, if_false, if_true]
theorem dec4 {g : Nat → Nat} {n c : Nat} (h0 : g 0 = 240 + c / 262144) (h1 : g 1 = 128 + c / 4096 % 64) (h2 : g 2 = 128 + c / 64 % 64) (h3 : g 3 = 128 + c % 64) (hn : n = 4) (hc : 65536 ≤ c ∧ c < 1114112) (hv : Utf8.valid (c : Int) = true) : (dec g n 0).1 = c := by
  subst hn
  have c1 : (decide (0 + 1 < 4) && (g (0 + 1) / 64 == 2)) = true := by rw [Nat.zero_add, h1]; simp; omega
  have c2 : (decide (0 + 2 < 4) && (g (0 + 2) / 64 == 2)) = true := by rw [Nat.zero_add, h2]; simp; omega
  have c3 : (decide (0 + 3 < 4) && (g (0 + 3) / 64 == 2)) = true := by rw [Nat.zero_add, h3]; simp; omega
  have b0 : ((240 + c / 262144) / 32 == 6) = false := by simp; omega
  have b1 : ((240 + c / 262144) / 16 == 14) = false := by simp; omega
  have b2 : ((240 + c / 262144) / 8 == 30) = true := by simp; omega
  have ec : (240 + c / 262144) % 8 * 262144 + (128 + c / 4096 % 64) % 64 * 4096 + (128 + c / 64 % 64) % 64 * 64 + (128 + c % 64) % 64 = c := by omega
  have hd : decide (c ≥ 65536) = true := by simp; omega
  unfold dec
  simp only [c1, c2, c3, h0, b0, b1, b2]
  rw [if_neg (by omega), Nat.zero_add, Nat.zero_add, Nat.zero_add, h1, h2, h3, ec, hv, hd]
  simp only [Bool.and_self, Bool.false_and, Bool.false_eq_true, if_false, if_true]

theorem u8n {n : Nat} (h : n < 256) : (UInt8.ofNat n).toNat = n := by simp; omega
theorem enc_dec {r : Int} (h : Utf8.valid r = true) : (Utf8.decode (Utf8.encode r) 0).1 = r.toNat := by
  have hv := h
  unfold Utf8.valid at hv
  simp only [Bool.or_eq_true, Bool.and_eq_true, decide_eq_true_eq] at hv
  rw [decode_dec]
  unfold Utf8.encode
  simp only [h, if_true]
  generalize hc : r.toNat = c
  have hc2 : c < 1114112 := by omega
  have hvc : Utf8.valid (c : Int) = true := by rw [← hc, Int.toNat_of_nonneg (by omega)]; exact h
  split
  · exact dec1 (u8n (by omega)) (by omega)
  · split
    · exact dec2 (u8n (by omega)) (u8n (by omega)) rfl (by omega)
    · split
      · exact dec3 (u8n (by omega)) (u8n (by omega)) (u8n (by omega)) rfl (by omega) hvc
      · exact dec4 (u8n (by omega)) (u8n (by omega)) (u8n (by omega)) (u8n (by omega)) rfl (by omega) hvc
end Go.Pg
