/- Layer 24: words between blanks, commands: what a text's command is, how one is written; plain laws of them. -/
import Derived.Test.YtocbeccmmfdnfaaDoorLexQ
namespace Go.Pg
open Go.Proofs Go.Utf8 Go.Lib

/-! ### words between blanks -/
def fldF : Nat → List UInt8 → List UInt8 → List (List UInt8)
  | 0, _, cur => if cur = [] then [] else [cur]
  | f + 1, L, cur =>
    if L = [] then (if cur = [] then [] else [cur])
    else if blk (decL L).1 = true then (if cur = [] then fldF f (L.drop (decL L).2) [] else cur :: fldF f (L.drop (decL L).2) [])
    else fldF f (L.drop (decL L).2) (cur ++ L.take (decL L).2)
def fld (L cur : List UInt8) : List (List UInt8) := fldF L.length L cur
def flds (L : List UInt8) : List (List UInt8) := fld L []

theorem fldF_fuel : ∀ (f f' : Nat) (L cur : List UInt8), L.length ≤ f → L.length ≤ f' → fldF f L cur = fldF f' L cur
  | 0, f', L, cur, h, _ => by
    have : L = [] := List.eq_nil_of_length_eq_zero (by omega)
    subst this
    cases f' <;> simp [fldF]
  | f + 1, 0, L, cur, _, h => by
    have : L = [] := List.eq_nil_of_length_eq_zero (by omega)
    subst this
    simp [fldF]
  | f + 1, f' + 1, L, cur, h1, h2 => by
    unfold fldF
    by_cases hL : L = []
    · rw [if_pos hL, if_pos hL]
    · have hw := decL_width hL
      rw [if_neg hL, if_neg hL, fldF_fuel f f' _ [] (by rw [List.length_drop]; omega) (by rw [List.length_drop]; omega), fldF_fuel f f' _ (cur ++ L.take (decL L).2) (by rw [List.length_drop]; omega) (by rw [List.length_drop]; omega)]
theorem fld_nil (cur : List UInt8) : fld [] cur = if cur = [] then [] else [cur] := rfl
theorem fld_step {L : List UInt8} (hL : L ≠ []) (cur : List UInt8) : fld L cur = if blk (decL L).1 = true then (if cur = [] then flds (L.drop (decL L).2) else cur :: flds (L.drop (decL L).2)) else fld (L.drop (decL L).2) (cur ++ L.take (decL L).2) := by
  have hw := decL_width hL
  unfold fld flds
  obtain ⟨n, hn⟩ : ∃ n, L.length = n + 1 := ⟨L.length - 1, by have := List.length_pos_iff.2 hL; omega⟩
  rw [hn]
  conv => lhs; unfold fldF
  rw [if_neg hL, fldF_fuel n (L.drop (decL L).2).length _ [] (by rw [List.length_drop]; omega) (Nat.le_refl _), fldF_fuel n (L.drop (decL L).2).length _ (cur ++ L.take (decL L).2) (by rw [List.length_drop]; omega) (Nat.le_refl _)]
  rfl

theorem fld_app {b : UInt8} (hb : b.toNat < 128) (hk : blk b.toNat = true) (Y : List UInt8) : ∀ (n : Nat) (X cur : List UInt8), X.length ≤ n → fld (X ++ b :: Y) cur = fld X cur ++ flds Y
  | n, X, cur, h => by
    by_cases hX : X = []
    · subst hX
      rw [List.nil_append, fld_step (by simp), decL_ascii hb, if_pos hk, fld_nil]
      simp only [List.drop_succ_cons, List.drop_zero]
      split <;> rfl
    · have hw := decL_width hX
      have hl := List.length_pos_iff.2 hX
      rw [fld_step (by simp), decL_left hX (.inr ⟨b, Y, rfl, hb⟩), List.drop_append_of_le_length hw.2, List.take_append_of_le_length hw.2, fld_step hX]
      cases n with
      | zero => omega
      | succ n =>
        unfold flds
        rw [fld_app hb hk Y n _ [] (by rw [List.length_drop]; omega), fld_app hb hk Y n _ (cur ++ X.take (decL X).2) (by rw [List.length_drop]; omega)]
        unfold flds
        split
        · split
          · rfl
          · rfl
        · rfl
theorem flds_app {b : UInt8} (hb : b.toNat < 128) (hk : blk b.toNat = true) (X Y : List UInt8) : flds (X ++ b :: Y) = flds X ++ flds Y := fld_app hb hk Y _ X [] (Nat.le_refl _)
/-- A row of blanks. -/
def Blanks (l : List UInt8) : Prop := ∀ b ∈ l, b.toNat < 128 ∧ blk b.toNat = true
theorem flds_blanks : ∀ {l : List UInt8}, Blanks l → ∀ Y, flds (l ++ Y) = flds Y
  | [], _, Y => rfl
  | b :: r, h, Y => by
    have hb := h b (by simp)
    have := flds_app hb.1 hb.2 [] (r ++ Y)
    rw [List.nil_append] at this
    rw [List.cons_append, this, flds_blanks (fun x hx => h x (by simp [hx])) Y]
    rfl
theorem flds_gap {l : List UInt8} (h : Blanks l) (hl : l ≠ []) (X Y : List UInt8) : flds (X ++ (l ++ Y)) = flds X ++ flds Y := by
  cases l with
  | nil => exact absurd rfl hl
  | cons b r =>
    have hb := h b (by simp)
    rw [List.cons_append, flds_app hb.1 hb.2, flds_blanks (fun x hx => h x (by simp [hx]))]
def nbl (r : Nat) : Bool := !blk r
theorem fld_word : ∀ (n : Nat) (t cur : List UInt8), t.length ≤ n → run nbl t = t.length → fld t cur = if cur ++ t = [] then [] else [cur ++ t]
  | n, t, cur, h, hr => by
    by_cases ht : t = []
    · subst ht
      rw [fld_nil, List.append_nil]
    · have hw := decL_width ht
      have hl := List.length_pos_iff.2 ht
      rw [run_step ht] at hr
      split at hr
      · rename_i hm
        have hk : ¬ blk (decL t).1 = true := by simpa [nbl] using hm
        cases n with
        | zero => omega
        | succ n =>
          rw [fld_step ht, if_neg hk, fld_word n _ _ (by rw [List.length_drop]; omega) (by rw [List.length_drop]; omega), List.append_assoc, List.take_append_drop]
      · omega
theorem flds_word {t : List UInt8} (ht : t ≠ []) (hr : run nbl t = t.length) : flds t = [t] := by
  unfold flds
  rw [fld_word _ t [] (Nat.le_refl _) hr, List.nil_append, if_neg ht]

/-! ### kinds -/
def kwords : List (List UInt8) := [[98, 114, 101, 97, 107], [100, 101, 108, 101, 116, 101], [115, 116, 101, 112], [110, 101, 120, 116], [102, 105, 110, 105, 115, 104], [99, 111, 110, 116, 105, 110, 117, 101], [98, 97, 99, 107], [114, 110, 101, 120, 116], [114, 99, 111, 110, 116, 105, 110, 117, 101], [103, 111, 116, 111], [119, 104, 101, 114, 101], [108, 111, 99, 97, 108, 115], [112, 114, 105, 110, 116], [98, 97, 99, 107, 116, 114, 97, 99, 101], [111, 117, 116], [119, 97, 116, 99, 104], [117, 110, 119, 97, 116, 99, 104]]
def wordK (k : Int) : List UInt8 := if 1 ≤ k ∧ k ≤ 17 then kwords.getD (k.toNat - 1) [] else []
def findK (t : List UInt8) : Nat := if kwords.idxOf t < 17 then kwords.idxOf t + 1 else 0
theorem findK_le (t : List UInt8) : findK t ≤ 17 := by unfold findK; split <;> omega
theorem wordK_find {t : List UInt8} (h : findK t ≠ 0) : wordK (findK t) = t := by
  unfold findK at h ⊢
  split at h
  · rename_i h1
    rw [if_pos h1]
    unfold wordK
    rw [if_pos ⟨by omega, by omega⟩, show ((kwords.idxOf t + 1 : Nat) : Int).toNat - 1 = kwords.idxOf t by omega]
    have h2 : kwords.idxOf t < kwords.length := h1
    rw [List.getD, List.getElem?_eq_getElem h2, Option.getD_some]
    exact List.getElem_idxOf h2
  · exact absurd rfl h
def isNum (k : Int) : Bool := k == 1 || k == 2 || k == 3 || k == 7 || k == 10
def mayNot (k : Int) : Bool := k == 3 || k == 7
def isNam (k : Int) : Bool := k == 13 || k == 16 || k == 17
def leastK (k : Int) : Int := if k = 1 ∨ k = 2 ∨ k = 3 ∨ k = 7 then 1 else 0
def nmL (t : List UInt8) : Bool := decide (t ≠ []) && !isUpperU (decL t).1 && decide ((decL t).1 ≠ 39) && decide (cnt (mkB t) ≤ 40) && decide (clsF (decL t).1 = 1) && decide (run lod t = t.length)
def isDig (b : UInt8) : Bool := decide (48 ≤ b.toNat) && decide (b.toNat ≤ 57)
def dval : List UInt8 → Int → Int
  | [], n => n
  | b :: r, n => dval r (10 * n + ((b.toNat : Int) - 48))
def numL (t : List UInt8) : Option Int := if 1 ≤ t.length ∧ t.length ≤ 9 ∧ t.all isDig = true then some (dval t 0) else none
/-- What stands behind a kind's word. -/
def argK (k : Int) (l : List (List UInt8)) : Option (Int × List UInt8) :=
  if isNum k = true then
    (match l with
      | [] => if mayNot k = true then some (1, []) else none
      | [t] => match numL t with
        | some n => if leastK k ≤ n then some (n, []) else none
        | none => none
      | _ => none)
  else if isNam k = true then
    (match l with
      | [t] => if nmL t = true then some (0, t) else none
      | _ => none)
  else if l = [] then some (0, []) else none
def parseW : List (List UInt8) → Option (Int × Int × List UInt8)
  | [] => none
  | w :: l => if findK w = 0 then none else (argK (findK w) l).map fun x => ((findK w : Int), x.1, x.2)
def parseL (s : List UInt8) : Option (Int × Int × List UInt8) := parseW (flds s)
/-- How a command is written; nothing: it is none. -/
def showL (k n : Int) (t : List UInt8) : List UInt8 :=
  if wordK k = [] ∨ (isNam k = false ∧ t ≠ []) ∨ (isNum k = false ∧ n ≠ 0) then []
  else if isNum k = true then (if n < leastK k ∨ 999999999 < n then [] else wordK k ++ 32 :: itoa n)
  else if isNam k = true then (if nmL t = true then wordK k ++ 32 :: t else []) else wordK k

/-! ### numerals -/
theorem dval_app : ∀ (a b : List UInt8) (n : Int), dval (a ++ b) n = dval b (dval a n)
  | [], _, _ => rfl
  | _ :: a, b, _n => dval_app a b _
theorem dval_bound : ∀ (t : List UInt8) (n : Int), t.all isDig = true → 0 ≤ n → 0 ≤ dval t n ∧ dval t n < (n + 1) * 10 ^ t.length
  | [], n, _, h0 => by simp [dval]; omega
  | b :: r, n, h, h0 => by
    simp only [List.all_cons, Bool.and_eq_true] at h
    have hb : 48 ≤ b.toNat ∧ b.toNat ≤ 57 := by simpa [isDig] using h.1
    have ih := dval_bound r (10 * n + ((b.toNat : Int) - 48)) h.2 (by omega)
    unfold dval
    refine ⟨ih.1, Int.lt_of_lt_of_le ih.2 ?_⟩
    rw [List.length_cons, Int.pow_succ, Int.mul_comm (10 ^ r.length), ← Int.mul_assoc]
    exact Int.mul_le_mul_of_nonneg_right (by omega) (Int.le_of_lt (Int.pow_pos (by decide)))
theorem numL_bound {t : List UInt8} {n : Int} (h : numL t = some n) : 0 ≤ n ∧ n ≤ 999999999 := by
  unfold numL at h
  split at h
  · rename_i hc
    cases h
    have := dval_bound t 0 hc.2.2 (by decide)
    refine ⟨this.1, ?_⟩
    have h2 : (10 : Int) ^ t.length ≤ 10 ^ 9 := by
      have : (10 : Nat) ^ t.length ≤ 10 ^ 9 := Nat.pow_le_pow_right (by decide) hc.2.1
      exact_mod_cast this
    omega
  · cases h
theorem digit_toNat {i : Nat} (h : i < 10) : (UInt8.ofNat (48 + i)).toNat = 48 + i := by
  rw [UInt8.toNat_ofNat']
  omega
theorem dec_ok : ∀ (n u : Nat), u ≤ n → (decDigits u).all isDig = true ∧ dval (decDigits u) 0 = u ∧ 1 ≤ (decDigits u).length
  | n, u, h => by
    rw [decDigits]
    split
    · rename_i h1
      have e := digit_toNat h1
      refine ⟨by simp [isDig]; omega, by simp [dval]; omega, by simp⟩
    · rename_i h1
      cases n with
      | zero => omega
      | succ n =>
        have ih := dec_ok n (u / 10) (by omega)
        have e := digit_toNat (i := u % 10) (by omega)
        refine ⟨by simp [isDig, ih.1]; omega, ?_, by simp⟩
        rw [dval_app, ih.2.1]
        simp only [dval, e]
        omega
theorem dec_len : ∀ (k u : Nat), u < 10 ^ (k + 1) → (decDigits u).length ≤ k + 1
  | k, u, h => by
    rw [decDigits]
    split
    · simp
    · rename_i h1
      cases k with
      | zero => simp at h; omega
      | succ k =>
        have := dec_len k (u / 10) (by rw [Nat.pow_succ] at h; omega)
        simp
        omega
theorem numL_itoa {n : Int} (h0 : 0 ≤ n) (h1 : n ≤ 999999999) : numL (itoa n) = some n := by
  obtain ⟨u, rfl⟩ : ∃ u : Nat, n = (u : Int) := ⟨n.toNat, by omega⟩
  rw [itoa_nonneg]
  have h := dec_ok u u (Nat.le_refl _)
  have hl := dec_len 8 u (by omega)
  unfold numL
  rw [if_pos ⟨h.2.2, hl, h.1⟩, h.2.1]

theorem digs_run {may : Nat → Bool} (hm : ∀ r, 48 ≤ r → r ≤ 57 → may r = true) : ∀ t : List UInt8, t.all isDig = true → run may t = t.length
  | [], _ => rfl
  | b :: r, h => by
    simp only [List.all_cons, Bool.and_eq_true] at h
    have hb : 48 ≤ b.toNat ∧ b.toNat ≤ 57 := by simpa [isDig] using h.1
    rw [run_go (by omega) (hm _ hb.1 hb.2), digs_run hm r h.2, List.length_cons]
    omega
theorem nbl_dig : ∀ r, 48 ≤ r → r ≤ 57 → nbl r = true := by
  intro r h1 h2
  have h := dig_digit ⟨h1, h2⟩
  simp only [dig, beq_iff_eq] at h
  simp [nbl, blk, h]
theorem run_mono {may may' : Nat → Bool} (h : ∀ r, may r = true → may' r = true) : ∀ (n : Nat) (t : List UInt8), t.length ≤ n → run may t = t.length → run may' t = t.length
  | n, t, hn, hr => by
    by_cases ht : t = []
    · subst ht; rfl
    · have hw := decL_width ht
      have hl := List.length_pos_iff.2 ht
      rw [run_step ht] at hr ⊢
      split at hr
      · rename_i hm
        cases n with
        | zero => omega
        | succ n =>
          rw [if_pos (h _ hm), run_mono h n _ (by rw [List.length_drop]; omega) (by rw [List.length_drop]; omega), List.length_drop]
          omega
      · omega
theorem lod_nbl (r : Nat) (h : lod r = true) : nbl r = true := by
  simp only [lod, Bool.or_eq_true, beq_iff_eq] at h
  rcases h with h | h <;> simp [nbl, blk, h]

theorem kword_ok : ∀ w ∈ kwords, w ≠ [] ∧ run nbl w = w.length := by decide +kernel
theorem wordK_mem {k : Int} (h : wordK k ≠ []) : wordK k ∈ kwords := by
  unfold wordK at h ⊢
  split at h
  · rename_i hk
    rw [if_pos hk]
    have : k.toNat - 1 < kwords.length := by show k.toNat - 1 < 17; omega
    rw [List.getD, List.getElem?_eq_getElem this, Option.getD_some]
    exact List.getElem_mem this
  · exact absurd rfl h

/-- A command that was read is written, and read again as itself. -/
theorem parse_show {s : List UInt8} {k n : Int} {t : List UInt8} (h : parseL s = some (k, n, t)) : parseL (showL k n t) = some (k, n, t) := by
  unfold parseL parseW at h
  split at h
  · cases h
  · rename_i w l hfl
    split at h
    · cases h
    · rename_i hf
      obtain ⟨⟨n', t'⟩, ha, he⟩ := Option.map_eq_some_iff.1 h
      cases he
      have hw := wordK_find hf
      have hwne : wordK (findK w) ≠ [] := by
        rw [hw]
        intro e
        subst e
        exact hf (by decide +kernel)
      have hwm := wordK_mem hwne
      rw [hw] at hwm hwne
      have hko := kword_ok w hwm
      have fw : flds w = [w] := flds_word hko.1 hko.2
      have two : ∀ x : List UInt8, flds (w ++ 32 :: x) = w :: flds x := fun x => by rw [flds_app (b := 32) (by decide) blk_32, fw]; rfl
      have one : ∀ (l' : List (List UInt8)) (r : Int × List UInt8), argK (findK w) l' = some r → parseW (w :: l') = some ((findK w : Int), r.1, r.2) := by
        intro l' r hr
        show (if findK w = 0 then none else (argK (findK w) l').map fun x => ((findK w : Int), x.1, x.2)) = _
        rw [if_neg hf, hr]
        rfl
      have hw' : wordK (findK w : Int) = w := hw
      unfold argK at ha
      unfold parseL showL
      rw [hw']
      by_cases h1 : isNum (findK w : Int) = true
      · rw [if_pos h1] at ha
        have hnam : isNam (findK w : Int) = false := by
          simp only [isNum, Bool.or_eq_true, beq_iff_eq] at h1
          rw [Bool.eq_false_iff]
          simp only [isNam, ne_eq, Bool.or_eq_true, beq_iff_eq]
          omega
        have key : ∀ m : Int, leastK (findK w) ≤ m → 0 ≤ m → m ≤ 999999999 → (m, ([] : List UInt8)) = (n', t') → parseW (flds (if w = [] ∨ (isNam (findK w : Int) = false ∧ t' ≠ []) ∨ (isNum (findK w : Int) = false ∧ n' ≠ 0) then []
            else if isNum (findK w : Int) = true then (if n' < leastK (findK w) ∨ 999999999 < n' then [] else w ++ 32 :: itoa n')
            else if isNam (findK w : Int) = true then (if nmL t' = true then w ++ 32 :: t' else []) else w)) = some ((findK w : Int), n', t') := by
          intro m hm0 hm1 hm2 he
          obtain ⟨rfl, rfl⟩ := Prod.mk.inj he
          rw [if_neg (by simp [hwne, h1]), if_pos h1, if_neg (by omega), two]
          have hd := dec_ok m.toNat m.toNat (Nat.le_refl _)
          have hi : itoa m = decDigits m.toNat := by
            obtain ⟨u, rfl⟩ : ∃ u : Nat, m = (u : Int) := ⟨m.toNat, by omega⟩
            rw [itoa_nonneg]
            rfl
          have hne : itoa m ≠ [] := by
            rw [hi]
            intro e
            have := hd.2.2
            rw [e] at this
            simp at this
          have fi : flds (itoa m) = [itoa m] := flds_word hne (by rw [hi]; exact digs_run nbl_dig _ hd.1)
          rw [fi]
          refine one [itoa m] (m, []) ?_
          unfold argK
          rw [if_pos h1]
          simp only [numL_itoa hm1 hm2]
          rw [if_pos hm0]
        split at ha
        · split at ha
          · rename_i hmay
            cases ha
            refine key 1 ?_ (by decide) (by decide) rfl
            unfold leastK
            split <;> decide
          · cases ha
        · rename_i x
          split at ha
          · rename_i m hm
            split at ha
            · rename_i hle
              cases ha
              have := numL_bound hm
              exact key _ hle this.1 this.2 rfl
            · cases ha
          · cases ha
        · cases ha
      · rw [if_neg h1] at ha
        by_cases h2 : isNam (findK w : Int) = true
        · rw [if_pos h2] at ha
          split at ha
          · rename_i x
            split at ha
            · rename_i hnm
              cases ha
              have hn := hnm
              unfold nmL at hn
              simp only [Bool.and_eq_true, decide_eq_true_eq] at hn
              rw [if_neg (by simp [hwne, h2]), if_neg h1, if_pos h2, if_pos hnm, two, flds_word hn.1.1.1.1.1 (run_mono lod_nbl _ _ (Nat.le_refl _) hn.2)]
              refine one [_] (0, _) ?_
              unfold argK
              rw [if_neg h1, if_pos h2]
              simp only
              rw [if_pos hnm]
            · cases ha
          · cases ha
        · rw [if_neg h2] at ha
          split at ha
          · cases ha
            rw [if_neg (by simp [hwne]), if_neg h1, if_neg h2, fw]
            refine one [] (0, []) ?_
            unfold argK
            rw [if_neg h1, if_neg h2, if_pos rfl]
          · cases ha
end Go.Pg
