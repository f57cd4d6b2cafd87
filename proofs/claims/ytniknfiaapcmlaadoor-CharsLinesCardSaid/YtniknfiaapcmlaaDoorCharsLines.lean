/- Layer 1: all lines, with bytes 10 between, are the text; a place is within its line: the law's tree returns true. -/
import Derived.Test.YtniknfiaapcmlaaDoorLines2
namespace Go.Pg
open Go.Proofs Go.Utf8

/-- Lines put together. -/
def joinL : List (List UInt8) → List UInt8
  | [] => []
  | [x] => x
  | x :: y :: xs => x ++ 10 :: joinL (y :: xs)
theorem joinL_cons (x : List UInt8) {l : List (List UInt8)} (h : l ≠ []) : joinL (x :: l) = x ++ 10 :: joinL l := by
  cases l with
  | nil => exact absurd rfl h
  | cons y xs => rfl
theorem joinL_hd1 (c : List UInt8) {l : List (List UInt8)} (h : l ≠ []) : joinL (hd1 c l) = c ++ joinL l := by
  cases l with
  | nil => exact absurd rfl h
  | cons x xs =>
    cases xs with
    | nil => rfl
    | cons y ys => simp [hd1, joinL]
theorem joinL_lns : ∀ l : List UInt8, joinL (lns l) = l
  | [] => rfl
  | b :: r => by
    unfold lns
    by_cases h : b = 10
    · rw [if_pos h, joinL_cons _ (lns_ne r), joinL_lns r, h]
      rfl
    · rw [if_neg h, joinL_hd1 _ (lns_ne r), joinL_lns r]
      rfl
theorem joinL_snoc : ∀ (l : List (List UInt8)) (x : List UInt8), joinL (l ++ [x]) = if l = [] then x else joinL l ++ 10 :: x
  | [], x => rfl
  | [y], x => by simp [joinL]
  | y :: z :: l, x => by
    have ih := joinL_snoc (z :: l) x
    rw [if_neg (by simp)] at ih
    rw [if_neg (by simp), List.cons_append, joinL_cons y (by simp), ih]
    simp [joinL]
theorem joinL_le : ∀ (l m : List (List UInt8)), (joinL l).length ≤ (joinL (l ++ m)).length
  | [], _ => Nat.zero_le _
  | [x], m => by
    cases m with
    | nil => simp
    | cons y ys => simp [joinL]
  | x :: y :: l, m => by
    have ih := joinL_le (y :: l) m
    rw [List.cons_append, joinL_cons x (by simp), joinL_cons x (by simp)]
    simp only [List.length_append, List.length_cons]
    omega

theorem lns_head : ∀ r : List UInt8, ∃ x xs rest, lns r = x :: xs ∧ r = x ++ rest ∧ (rest = [] ∨ ∃ y, rest = 10 :: y)
  | [] => ⟨[], [], [], rfl, rfl, .inl rfl⟩
  | b :: r => by
    unfold lns
    by_cases h : b = 10
    · rw [if_pos h]
      exact ⟨[], lns r, b :: r, rfl, rfl, .inr ⟨r, by rw [h]⟩⟩
    · rw [if_neg h]
      obtain ⟨x, xs, rest, e1, e2, e3⟩ := lns_head r
      rw [e1]
      exact ⟨b :: x, xs, rest, rfl, by rw [e2]; rfl, e3⟩

theorem nl_lines (s : ByteArray) (at' : Nat) (ha : at' ≤ s.size) : ∀ d i fr ln (dn : List (List UInt8)), at' - i = d → fr ≤ i → i ≤ at' → ln = dn.length + 1 → lns s.data.toList = dn ++ hd1 ((s.data.toList.take i).drop fr) (lns (s.data.toList.drop i)) →
    ∃ dn' : List (List UInt8), (nlF s at' at' i fr ln).2 = dn'.length + 1 ∧ (nlF s at' at' i fr ln).1 ≤ at' ∧ lns s.data.toList = dn' ++ hd1 ((s.data.toList.take at').drop (nlF s at' at' i fr ln).1) (lns (s.data.toList.drop at'))
  | 0, i, fr, ln, dn, hd, hfr, hi, hln, h => by
    obtain rfl : i = at' := by omega
    rw [nlF_end s i i fr ln (by omega)]
    exact ⟨dn, hln, hfr, h⟩
  | d + 1, i, fr, ln, dn, hd, hfr, hi, hln, h => by
    have hsl := size_len s
    have hil : i < s.data.toList.length := by omega
    have e0 : s.data.toList.getD i 0 = s.data.toList[i] := by simp only [List.getD, List.getElem?_eq_getElem hil, Option.getD_some]
    have e1 : s.data.toList.drop i = s.data.toList[i] :: s.data.toList.drop (i + 1) := List.drop_eq_getElem_cons hil
    rw [nlF_step s at' i fr ln (by omega), e0]
    by_cases hb : s.data.toList[i] = 10
    · rw [if_pos hb]
      have e3 : lns (s.data.toList.drop i) = [] :: lns (s.data.toList.drop (i + 1)) := by
        rw [e1]
        conv => lhs; unfold lns
        rw [if_pos hb]
      refine nl_lines s at' ha d (i + 1) (i + 1) (ln + 1) (dn ++ [(s.data.toList.take i).drop fr]) (by omega) (Nat.le_refl _) (by omega) (by simp; omega) ?_
      have e9 : (s.data.toList.take (i + 1)).drop (i + 1) = [] := List.drop_of_length_le (by simp; omega)
      rw [e9, hd1_nil (lns_ne _), h, e3]
      simp [hd1]
    · rw [if_neg hb]
      have e3 : lns (s.data.toList.drop i) = hd1 [s.data.toList[i]] (lns (s.data.toList.drop (i + 1))) := by
        rw [e1]
        conv => lhs; unfold lns
        rw [if_neg hb]
      have e4 : (s.data.toList.take (i + 1)).drop fr = (s.data.toList.take i).drop fr ++ [s.data.toList[i]] := by
        rw [List.take_succ_eq_append_getElem hil, List.drop_append_of_le_length (by simp; omega)]
      refine nl_lines s at' ha d (i + 1) fr ln dn (by omega) (by omega) (by omega) hln ?_
      rw [h, e3, hd1_app _ _ (lns_ne _), e4]

theorem colF_ge (s : ByteArray) (at' : Nat) : ∀ f p c, c ≤ colF s at' f p c
  | 0, _, _ => Nat.le_refl _
  | f + 1, p, c => by
    unfold colF
    split
    · have h := colF_ge s at' f (p + (Utf8.decode s p).2) (if p < at' then c + 1 else c)
      refine Nat.le_trans ?_ h
      split <;> omega
    · exact Nat.le_refl _
theorem colF_le (s l : ByteArray) (at' fr : Nat) (hsz : fr + l.size ≤ s.size) (hd : ∀ q, q < l.size → Utf8.decode s (fr + q) = Utf8.decode l q) (ha : at' ≤ fr + l.size) : ∀ d q c, l.size - q = d → q ≤ l.size → colF s at' s.size (fr + q) c ≤ c + cntF l (l.size - q) q := by
  intro d
  induction d using Nat.strongRecOn with
  | _ d ih =>
    intro q c hq hql
    by_cases h : q < l.size
    · have hw := width l h
      rw [colF_step s at' (fr + q) c (by omega), hd q h, Nat.add_assoc]
      have := ih (l.size - (q + (Utf8.decode l q).2)) (by omega) (q + (Utf8.decode l q).2) (if fr + q < at' then c + 1 else c) rfl hw.2
      have e : cntF l (l.size - q) q = cntF l (l.size - (q + (Utf8.decode l q).2)) (q + (Utf8.decode l q).2) + 1 := by
        obtain ⟨f, hf⟩ : ∃ f, l.size - q = f + 1 := ⟨l.size - q - 1, by omega⟩
        rw [hf]
        conv => lhs; unfold cntF
        rw [if_pos h, cntF_fuel l f (l.size - (q + (Utf8.decode l q).2)) _ (by omega) (by omega)]
      rw [e]
      split at this <;> split <;> omega
    · rw [colF_past s at' _ _ _ (by omega)]
      omega

/-- A place is in a line, and not behind its end. -/
theorem pos_in (s : ByteArray) (at' : Nat) (ha : at' ≤ s.size) : ∃ k : Nat, (posF s at' s.size 0 1 1).1 = k + 1 ∧ k < (lns s.data.toList).length ∧ 1 ≤ (posF s at' s.size 0 1 1).2 ∧ (posF s at' s.size 0 1 1).2 ≤ cnt (mkB ((lns s.data.toList).getD k [])) + 1 := by
  have hsl := size_len s
  obtain ⟨dn, h1, h2, h3⟩ := nl_lines s at' ha at' 0 0 1 [] rfl (Nat.le_refl _) (Nat.zero_le _) rfl (by simp [hd1_nil (lns_ne s.data.toList)])
  rw [pos_agree s at' ha s.size 0 1 1 0 rfl rfl]
  simp only
  generalize (nlF s at' at' 0 0 1).2 = ln at h1
  generalize (nlF s at' at' 0 0 1).1 = fr at h2 h3 ⊢
  obtain ⟨x, xs, rest, e1, e2, e3⟩ := lns_head (s.data.toList.drop at')
  rw [e1] at h3
  have hk : dn.length < (lns s.data.toList).length := by rw [h3]; simp [hd1]
  have hg : (lns s.data.toList).getD dn.length [] = (s.data.toList.take at').drop fr ++ x := by
    rw [h3]
    simp [hd1]
  refine ⟨dn.length, h1, hk, colF_ge _ _ _ _ _, ?_⟩
  rw [hg]
  obtain ⟨l, hl⟩ : ∃ l, l = (s.data.toList.take at').drop fr ++ x := ⟨_, rfl⟩
  rw [← hl]
  have hdrop : s.data.toList.drop fr = l ++ rest := by
    have e4 : s.data.toList = s.data.toList.take at' ++ s.data.toList.drop at' := (List.take_append_drop _ _).symm
    conv => lhs; rw [e4]
    rw [List.drop_append_of_le_length (by simp; omega), e2, hl, List.append_assoc]
  have hlen := congrArg List.length hdrop
  rw [List.length_drop, List.length_append] at hlen
  have hll : at' ≤ fr + l.length := by
    rw [hl, List.length_append, List.length_drop, List.length_take]
    omega
  have hb : ∀ k, byteN s (fr + k) = byteN (mkB (l ++ rest)) k := fun k => by
    rw [byteN_L, byteN_L, mkB_data, ← hdrop]
    simp [List.getD]
  have hdec : ∀ q, q < (mkB l).size → Utf8.decode s (fr + q) = Utf8.decode (mkB l) q := by
    intro q hq
    rw [mkB_size] at hq
    have hs' : s.size = fr + (l ++ rest).length := by rw [List.length_append]; omega
    rw [decode_dec, decode_dec, hs', dec_shift (byteN (mkB (l ++ rest))) (byteN s) fr (l ++ rest).length q hb, mkB_size]
    refine dec_left hq (by simp) (fun k hk => ?_) fun hlt => ?_
    · rw [byteN_L, byteN_L, mkB_data, mkB_data]
      unfold List.getD
      rw [List.getElem?_append_left hk]
    · rcases e3 with e3 | ⟨y, e3⟩
      · rw [e3, List.append_nil] at hlt
        omega
      · rw [byteN_L, mkB_data, e3]
        simp [List.getD]
  have := colF_le s (mkB l) at' fr (by rw [mkB_size]; omega) hdec (by rw [mkB_size]; exact hll) (mkB l).size 0 1 rfl (Nat.zero_le _)
  have e : cnt (mkB l) = cntF (mkB l) ((mkB l).size - 0) 0 := rfl
  rw [e]
  rw [Nat.add_zero] at this
  omega

theorem hovD : OvN ovD := ⟨fun k h1 _ => by
  have e1 : Nat.beq k 20 = false := by
    cases h : Nat.beq k 20 with
    | false => rfl
    | true => exact absurd (Nat.eq_of_beq_eq_true h) h1
  simp [ovD, e1]⟩
theorem awakeL : WpF PROG ovD 9 [] (startH (tabOld tabsD)) fun v _ => v = .bool true := WpF.tab TAB_ok 100000 (by kernel_rfl)

theorem charsLines_true (s0 : ByteArray) (_ : s0.size ≤ maxLen) (a1 : Int) (_ : (Lit.int .i64 a1).wf = true) :
    WpF PROG ovD 6 [.string s0, .int .i64 a1] (startH (tabOld tabsD)) fun v _ => v = .bool true := by
  refine WpF.of (T6_eq _ _) rfl ?_
  rw [T6, wp_call]
  refine awakeL.mono ?_
  rintro v σ rfl
  simp only [asBool_bool]
  rw [wp_bif, if_neg (by simp), wp_bif]
  by_cases h3 : ((s0.size : Nat) : Int) > 300
  · rw [if_pos (by simpa using h3), wp_ret]
    exact ⟨_, rfl, rfl⟩
  rw [if_neg (by simpa using h3)]
  have hsl := size_len s0
  obtain ⟨at', ha⟩ : ∃ at' : Nat, minV (maxV a1 0) ((s0.size : Nat) : Int) = (at' : Int) := ⟨(minV (maxV a1 0) ((s0.size : Nat) : Int)).toNat, by rw [minV_eq, maxV_eq]; omega⟩
  have hal : at' ≤ s0.size := by rw [minV_eq, maxV_eq] at ha; omega
  obtain ⟨k, p1, p2, p3, p4⟩ := pos_in s0 at' hal
  have hle := posF_le s0 at' s0.size 0 1 1
  have hjl := joinL_lns s0.data.toList
  have hll := lns_len s0.data.toList
  have hcl := List.count_le_length (a := (10 : UInt8)) (l := s0.data.toList)
  have e2 : wi64 (((s0.size : Nat) : Int) + 2) = ((s0.size + 2 : Nat) : Int) := by rw [wi64_in (by omega)]; omega
  refine Wp.count (lns s0.data.toList).length (fun j st σ' => st = [.int .i64 ((j + 1 : Nat) : Int), .string (mkB (joinL ((lns s0.data.toList).take j)))]) rfl ?_ ?_
  · rintro j st σ1 hj rfl
    have ej : wi64 (((j + 1 : Nat) : Int) + 1) = ((j + 1 + 1 : Nat) : Int) := by rw [wi64_in (by omega)]; omega
    have hm : lineM s0.data.toList ((j + 1 : Nat) : Int) = ((lns s0.data.toList)[j], true) := by
      unfold lineM
      rw [if_pos ⟨by omega, by omega⟩, show (((j + 1 : Nat) : Int)).toNat - 1 = j by omega]
      simp [List.getD, hj]
    have hpre : ∀ i, (joinL ((lns s0.data.toList).take i)).length ≤ s0.size := fun i => by
      have := joinL_le ((lns s0.data.toList).take i) ((lns s0.data.toList).drop i)
      rw [List.take_append_drop, hjl] at this
      omega
    have hs1 := hpre j
    have hs2 := hpre (j + 1)
    rw [List.take_succ_eq_append_getElem hj, joinL_snoc] at hs2
    simp only [T6b0, asCons_cons, asInt_int, asStr_str, asNil_nil]
    rw [e2, wp_bif, if_pos (by simp; omega), wp_join, wp_call]
    refine wp_line hovD s0 (by omega) _ (by omega) fun σ2 => ?_
    rw [hm]
    simp only [asTuple_tuple, asCons_cons, asStr_str, asBool_bool, asNil_nil]
    rw [wp_bif, if_neg (by simp), wp_join, wp_bif]
    by_cases h0 : j = 0
    · subst h0
      rw [if_pos (by simp)] at hs2
      rw [if_neg (by simp), wp_ret]
      simp only [T6k0, sw_same, asCons_cons, asStr_str, asNil_nil]
      rw [wp_grd]
      refine ⟨by rw [Nat.ble_eq, mkB_size, mkB_size]; simp [joinL]; omega, ?_⟩
      rw [wp_ret]
      simp only [T6k1, sw_ne, sw_same, asCons_cons, asInt_int, asStr_str, asNil_nil]
      rw [wp_ret, ej, app_mkB, List.take_succ_eq_append_getElem hj]
      simp [joinL]
    · have hne : (lns s0.data.toList).take j ≠ [] := fun e => by
        have := congrArg List.length e
        rw [List.length_take, List.length_nil] at this
        omega
      rw [if_neg hne] at hs2
      simp only [List.length_append, List.length_cons] at hs2
      rw [if_pos (by simp; omega), wp_grd]
      refine ⟨by rw [Nat.ble_eq, mkB_size]; omega, ?_⟩
      rw [wp_ret]
      simp only [T6k0, sw_same, asCons_cons, asStr_str, asNil_nil]
      have e10 : bs [10] = mkB [10] := rfl
      rw [e10, app_mkB, wp_grd]
      refine ⟨by rw [Nat.ble_eq, mkB_size, mkB_size]; simp; omega, ?_⟩
      rw [wp_ret]
      simp only [T6k1, sw_ne, sw_same, asCons_cons, asInt_int, asStr_str, asNil_nil]
      rw [wp_ret, ej, app_mkB, List.take_succ_eq_append_getElem hj, joinL_snoc, if_neg hne]
      simp
  · rintro st σ1 rfl
    have hm : lineM s0.data.toList (((lns s0.data.toList).length + 1 : Nat) : Int) = ([], false) := by
      unfold lineM
      rw [if_neg (by omega)]
    have hmk : lineM s0.data.toList ((k + 1 : Nat) : Int) = ((lns s0.data.toList).getD k [], true) := by
      unfold lineM
      rw [if_pos ⟨by omega, by omega⟩, show (((k + 1 : Nat) : Int)).toNat - 1 = k by omega]
    simp only [T6b0, asCons_cons, asInt_int, asStr_str, asNil_nil]
    rw [e2, wp_bif, if_pos (by simp; omega), wp_join, wp_call]
    refine wp_line hovD s0 (by omega) _ (by omega) fun σ2 => ?_
    rw [hm]
    simp only [asTuple_tuple, asCons_cons, asStr_str, asBool_bool, asNil_nil]
    rw [wp_bif, if_pos (by rfl), wp_ret]
    simp only [T6k1, sw_same, asCons_cons, asInt_int, asStr_str, asNil_nil]
    rw [wp_ret]
    simp only [T6k3, sw_same, asCons_cons, asInt_int, asStr_str, asNil_nil]
    rw [wp_call]
    refine wp_pos hovD s0 (by omega) a1 at' ha _ fun σ3 => ?_
    simp only [asTuple_tuple, asCons_cons, asInt_int, asNil_nil]
    rw [p1, wp_call]
    refine wp_line hovD s0 (by omega) _ (by omega) fun σ4 => ?_
    rw [hmk, List.take_length, hjl]
    simp only [asTuple_tuple, asCons_cons, asStr_str, asBool_bool, asNil_nil]
    have hck := cnt_le (mkB ((lns s0.data.toList).getD k []))
    have hlk : ((lns s0.data.toList).getD k []).length ≤ s0.size := by
      have h1 := joinL_le ((lns s0.data.toList).take (k + 1)) ((lns s0.data.toList).drop (k + 1))
      rw [List.take_append_drop, hjl, List.take_succ_eq_append_getElem p2, joinL_snoc] at h1
      have e : (lns s0.data.toList).getD k [] = (lns s0.data.toList)[k] := by simp [List.getD, p2]
      rw [e]
      split at h1
      · omega
      · simp only [List.length_append, List.length_cons] at h1
        omega
    rw [mkB_size] at hck
    rw [wp_join, wp_bif, if_pos (by rw [mkB_self]; simp; omega), wp_call]
    refine wp_runes hovD _ (by rw [mkB_size]; omega) _ fun σ5 => ?_
    rw [asInt_int, wp_ret, wi64_in (by omega)]
    simp only [T6k2, sw_same, asCons_cons, asBool_bool, asNil_nil]
    rw [wp_ret]
    refine ⟨_, rfl, ?_⟩
    rw [decide_eq_true (by omega)]
end Go.Pg
