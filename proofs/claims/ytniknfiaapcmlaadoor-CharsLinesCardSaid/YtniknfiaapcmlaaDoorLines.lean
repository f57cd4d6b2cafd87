/- Layer 1: lines: strings.Split at a byte 10, Line, the document's Line. -/
import Derived.Test.YtniknfiaapcmlaaDoorRow1
namespace Go.Pg
open Go.Proofs Go.Utf8

theorem tl_loop (s : ByteArray) : ∀ (d i : Nat) (r : List UInt8), s.size - i = d → ByteArray.toList.loop s i r = r.reverse ++ s.data.toList.drop i
  | 0, i, r, h => by
    unfold ByteArray.toList.loop
    rw [if_neg (by omega), List.drop_of_length_le (by have : s.data.toList.length = s.size := rfl
                                                      omega), List.append_nil]
  | d + 1, i, r, h => by
    have hl : i < s.data.toList.length := by
      have : s.data.toList.length = s.size := rfl
      omega
    unfold ByteArray.toList.loop
    rw [if_pos (by omega), tl_loop s d (i + 1) _ (by omega), List.drop_eq_getElem_cons hl, List.reverse_cons, List.append_assoc]
    have e : s.get! i = s.data.toList[i] := by
      cases s with
      | mk a => simp only [ByteArray.get!]; rw [getElem!_pos a i (by simpa using hl)]; rfl
    rw [e]
    rfl
theorem tl_data (s : ByteArray) : s.toList = s.data.toList := by
  unfold ByteArray.toList
  rw [tl_loop s _ 0 [] rfl]
  rfl

def mkB (l : List UInt8) : ByteArray := ⟨l.toArray⟩
theorem mkB_self (s : ByteArray) : mkB s.data.toList = s := rfl
theorem mkB_data (l : List UInt8) : (mkB l).data.toList = l := rfl
theorem mkB_size (l : List UInt8) : (mkB l).size = l.length := rfl
theorem size_len (s : ByteArray) : s.data.toList.length = s.size := rfl
theorem ext_mkB (s : ByteArray) (a b : Nat) : s.extract a b = mkB ((s.data.toList.take b).drop a) := by
  have h : (s.extract a b).data.toList = (s.data.toList.take b).drop a := by
    rw [ByteArray.data_extract, Array.toList_extract]
    simp [List.extract, List.drop_take]
  rw [← h]
  rfl
theorem app_mkB (a b : List UInt8) : mkB a ++ mkB b = mkB (a ++ b) := by
  have h : (mkB a ++ mkB b).data.toList = a ++ b := by simp [mkB]
  rw [← mkB_self (mkB a ++ mkB b), h]

/-- Words that are put ahead of the first of some rows. -/
def hd1 (c : List UInt8) : List (List UInt8) → List (List UInt8)
  | [] => [c]
  | x :: xs => (c ++ x) :: xs
/-- The lines of a text. -/
def lns : List UInt8 → List (List UInt8)
  | [] => [[]]
  | b :: r => if b = 10 then [] :: lns r else hd1 [b] (lns r)
theorem hd1_ne (c : List UInt8) (l : List (List UInt8)) : hd1 c l ≠ [] := by cases l <;> simp [hd1]
theorem lns_ne (l : List UInt8) : lns l ≠ [] := by
  cases l with
  | nil => simp [lns]
  | cons b r =>
    unfold lns
    split
    · simp
    · exact hd1_ne _ _
theorem hd1_len (c : List UInt8) {l : List (List UInt8)} (h : l ≠ []) : (hd1 c l).length = l.length := by
  cases l with
  | nil => exact absurd rfl h
  | cons x xs => rfl
theorem hd1_app (a b : List UInt8) {l : List (List UInt8)} (h : l ≠ []) : hd1 a (hd1 b l) = hd1 (a ++ b) l := by
  cases l with
  | nil => exact absurd rfl h
  | cons x xs => simp [hd1]
theorem hd1_nil {l : List (List UInt8)} (h : l ≠ []) : hd1 [] l = l := by
  cases l with
  | nil => exact absurd rfl h
  | cons x xs => rfl
theorem lns_len : ∀ l : List UInt8, (lns l).length = l.count 10 + 1
  | [] => rfl
  | b :: r => by
    unfold lns
    by_cases h : b = 10
    · subst h
      rw [if_pos rfl, List.length_cons, lns_len r, List.count_cons_self]
    · rw [if_neg h, hd1_len _ (lns_ne r), lns_len r, List.count_cons_of_ne (by simpa using h)]
theorem lns_no : ∀ l : List UInt8, 10 ∉ l → lns l = [l]
  | [], _ => rfl
  | b :: r, h => by
    have hb : b ≠ 10 := fun e => h (by simp [e])
    unfold lns
    rw [if_neg hb, lns_no r fun hr => h (by simp [hr])]
    rfl
theorem lns_cut : ∀ (a r : List UInt8), 10 ∉ a → lns (a ++ 10 :: r) = a :: lns r
  | [], r, _ => by
    rw [List.nil_append]
    conv => lhs; unfold lns
    rw [if_pos rfl]
  | b :: a, r, h => by
    have hb : b ≠ 10 := fun e => h (by simp [e])
    rw [List.cons_append]
    conv => lhs; unfold lns
    rw [if_neg hb, lns_cut a r fun hr => h (by simp [hr])]
    rfl

theorem index_lns : ∀ r : List UInt8, (Lib.indexByte r 10 = -1 ∧ lns r = [r]) ∨ ∃ m : Nat, Lib.indexByte r 10 = (m : Int) ∧ m < r.length ∧ lns r = r.take m :: lns (r.drop (m + 1))
  | [] => .inl ⟨rfl, rfl⟩
  | b :: r => by
    unfold Lib.indexByte
    by_cases h : b = 10
    · subst h
      right
      refine ⟨0, by simp, by simp, ?_⟩
      simp [lns]
    · rw [if_neg (by simpa using h)]
      have el : lns (b :: r) = hd1 [b] (lns r) := by
        conv => lhs; unfold lns
        rw [if_neg h]
      rcases index_lns r with ⟨h1, h2⟩ | ⟨m, h1, h2, h3⟩
      · left
        rw [if_pos (by rw [h1]; rfl), el, h2]
        exact ⟨rfl, rfl⟩
      · right
        rw [if_neg (by rw [h1]; simp), h1, el, h3]
        exact ⟨m + 1, by omega, by simpa using h2, rfl⟩

structure OvN (ov : Ov) : Prop where
  n : ∀ k, k ≠ 20 → k ≠ 21 → ov k = none

/-- What Line answers. -/
def lineM (L : List UInt8) (n : Int) : List UInt8 × Bool := if 1 ≤ n ∧ n ≤ ((lns L).length : Int) then ((lns L).getD (n.toNat - 1) [], true) else ([], false)

section
variable {ov : Ov} {σ : AHeap}

theorem ev_index (hov : OvN ov) (r : List UInt8) : EvF PROG ov 29 [.string (mkB r), .string (bs [10])] σ (.int .i64 (Lib.indexByte r 10)) σ := by
  have h35 : EvF PROG ov 35 [.string (mkB r), .int .u8 (byteAt (bs [10]) 0)] σ (.int .i64 (Lib.indexByte r 10)) σ := by
    refine EvF.of (T35_eq _ _) (hov.n 35 (by decide) (by decide)) ?_
    rw [T35, wp_ret]
    exact ⟨rfl, rfl⟩
  have h33 : EvF PROG ov 33 [.string (mkB r), .string (bs [10])] σ (.int .i64 (Lib.indexByte r 10)) σ := by
    refine EvF.of (T33_eq _ _) (hov.n 33 (by decide) (by decide)) ?_
    rw [T33, wp_join, wp_bif]
    by_cases he : (bs [10]).toList = (mkB r).toList
    · have hr : r = [10] := by
        rw [tl_data, tl_data] at he
        exact he.symm
      rw [if_pos (by rw [he]; simp), wp_ret]
      simp only [T33k7, sw_same, asCons_cons, asInt_int, asNil_nil]
      rw [wp_ret, hr]
      exact ⟨rfl, rfl⟩
    · rw [if_neg (by simp [he]; decide), wp_bif, if_pos (by decide), wp_grd]
      refine ⟨by decide, ?_⟩
      rw [wp_call, WpF.eq h35, asInt_int, wp_ret]
      simp only [T33k7, sw_same, asCons_cons, asInt_int, asNil_nil]
      rw [wp_ret]
      exact ⟨rfl, rfl⟩
  refine EvF.of (T29_eq _ _) (hov.n 29 (by decide) (by decide)) ?_
  rw [T29, wp_call, WpF.eq h33, asInt_int, wp_ret]
  exact ⟨rfl, rfl⟩

theorem ev_count (hov : OvN ov) (r : List UInt8) : EvF PROG ov 28 [.string (mkB r), .string (bs [10])] σ (.int .i64 ((r.count 10 : Nat) : Int)) σ := by
  refine EvF.of (T28_eq _ _) (hov.n 28 (by decide) (by decide)) ?_
  rw [T28, wp_bif, if_neg (by decide), wp_bif, if_pos (by decide), wp_grd]
  refine ⟨by decide, ?_⟩
  rw [wp_ret]
  exact ⟨rfl, rfl⟩

/-- The cells of the row that Split fills. -/
def cellsL (X : List (List UInt8)) (n : Nat) : List Value := X.map (fun x => .string (mkB x)) ++ List.replicate n (.string (bs []))

theorem wp_split (hov : OvN ov) (s : ByteArray) (hs : s.size ≤ 1000000) {Q : Value → AHeap → Prop}
    (hQ : ∀ σ' b off sp cap, Row σ' b off sp cap 1 ((lns s.data.toList).map fun x => .string (mkB x)) → Q (.slice (some ⟨b, off, some sp⟩) (lns s.data.toList).length cap) σ') :
    WpF PROG ov 22 [.string s, .string (bs [10])] σ Q := by
  have hsl := size_len s
  rw [← mkB_self s]
  generalize s.data.toList = L at hsl hQ ⊢
  have hll := lns_len L
  have hcl := List.count_le_length (a := (10 : UInt8)) (l := L)
  refine WpF.of (T22_eq _ _) (hov.n 22 (by decide) (by decide)) ?_
  rw [T22, wp_call]
  refine WpF.of (T24_eq _ _ _ _) (hov.n 24 (by decide) (by decide)) ?_
  rw [T24, wp_bif, if_neg (by decide), wp_bif, if_neg (by rw [tl_data, tl_data]; decide), wp_join, wp_bif, if_pos (by decide), wp_call, WpF.eq (ev_count hov L), asInt_int, wp_ret]
  simp only [T24k2, sw_same, asCons_cons, asInt_int, asNil_nil]
  have e1 : wi64 (((L.count 10 : Nat) : Int) + 1) = (((lns L).length : Nat) : Int) := by rw [wi64_in (by omega)]; omega
  have e2 : minV (((lns L).length : Nat) : Int) (wi64 ((((mkB L).size : Nat) : Int) + 1)) = (((lns L).length : Nat) : Int) := by
    rw [minV_eq, mkB_size, wi64_in (by omega)]
    omega
  rw [e1, e2, wp_act, mkSl_eq _ _ _ _ _ (by omega), rep_1]
  simp only [asSlice_slice]
  have hRa := Row.new σ 1 (List.replicate (lns L).length (.string (bs []))) (lns L).length (by decide) (by simp) (by intro x hx; rw [List.mem_replicate] at hx; rw [hx.2]; rfl)
  generalize σ.newBlk (List.replicate (lns L).length (.string (bs []))) 1 = σ1 at hRa
  have e3 : wi64 ((((lns L).length : Nat) : Int) - 1) = (((lns L).length - 1 : Nat) : Int) := by rw [wi64_in (by omega)]; omega
  refine Wp.count ((lns L).length - 1) (fun j st σ' => ∃ r, st = [.int .i64 ((j : Nat) : Int), .string (mkB r)] ∧ lns r = (lns L).drop j ∧ r.length ≤ L.length ∧ Row σ' σ.n 0 1 (lns L).length 1 (cellsL ((lns L).take j) ((lns L).length - j)))
    ⟨L, rfl, rfl, Nat.le_refl _, by simpa [cellsL] using hRa⟩ ?_ ?_
  · rintro j st σ2 hj ⟨r, rfl, hr, hrl, hR⟩
    have ej : wi64 ((j : Int) + 1) = ((j + 1 : Nat) : Int) := by rw [wi64_in (by omega)]; omega
    simp only [T24b0, asCons_cons, asInt_int, asStr_str, asNil_nil]
    rw [e2, e3, wp_bif, if_pos (by simp; omega), wp_join, wp_call, WpF.eq (ev_index hov r), asInt_int]
    have hdl : (lns r).length = (lns L).length - j := by rw [hr, List.length_drop]
    rcases index_lns r with ⟨h1, h2⟩ | ⟨m, h1, h2, h3⟩
    · rw [h2] at hdl
      simp only [List.length_singleton] at hdl
      omega
    · have e4 : wi64 ((m : Int) + 0) = ((m : Nat) : Int) := by rw [wi64_in (by omega)]; omega
      have e5 : wi64 ((m : Int) + (((bs [10]).size : Nat) : Int)) = ((m + 1 : Nat) : Int) := by
        rw [show (bs [10]).size = 1 from rfl, wi64_in (by omega)]
        omega
      rw [h1, wp_bif, if_neg (by simp), e4, e5, wp_grd, mkB_size]
      refine ⟨by simp; omega, ?_⟩
      simp only [asSome_some]
      rw [wp_grd]
      refine ⟨by simp; omega, ?_⟩
      rw [Int.toNat_natCast, Int.toNat_natCast]
      refine wp_rowW hR (by simp [cellsL]; omega) rfl fun σ3 _ _ hR3 => ?_
      rw [wp_grd]
      refine ⟨by simp; omega, ?_⟩
      rw [wp_ret]
      simp only [T24k0, sw_ne, sw_same, asCons_cons, asInt_int, asStr_str, asNil_nil]
      rw [wp_ret, ej, Int.toNat_natCast]
      have hx1 : (mkB r).extract (m + 1) r.length = mkB (r.drop (m + 1)) := by
        rw [ext_mkB, mkB_data, List.take_length]
      have hx0 : (mkB r).extract 0 m = mkB (r.take m) := by
        rw [ext_mkB, mkB_data]
        rfl
      rw [hx1]
      rw [hx0] at hR3
      have hd : (lns L).drop (j + 1) = lns (r.drop (m + 1)) := by
        rw [← List.drop_drop, ← hr, h3]
        rfl
      have hjl : j < (lns L).length := by omega
      have hg : (lns L)[j] = r.take m := by
        have : (lns L).drop j = (lns L)[j] :: (lns L).drop (j + 1) := List.drop_eq_getElem_cons hjl
        rw [← hr, h3] at this
        exact (List.cons.inj this).1.symm
      refine ⟨r.drop (m + 1), rfl, hd.symm, by simp; omega, ?_⟩
      have e6 : (cellsL ((lns L).take j) ((lns L).length - j)).set j (.string (mkB (r.take m))) = cellsL ((lns L).take (j + 1)) ((lns L).length - (j + 1)) := by
        unfold cellsL
        rw [List.set_append_right _ _ (by simp; omega), List.length_map, List.length_take, Nat.min_eq_left (by omega), Nat.sub_self]
        obtain ⟨d, hd⟩ : ∃ d, (lns L).length - j = d + 1 := ⟨(lns L).length - j - 1, by omega⟩
        rw [hd, List.replicate_succ, List.set_cons_zero, show (lns L).length - (j + 1) = d by omega, List.take_succ_eq_append_getElem hjl, List.map_append, hg]
        simp
      rw [e6] at hR3
      exact hR3
  · rintro st σ2 ⟨r, rfl, hr, hrl, hR⟩
    have hdl : (lns r).length = 1 := by rw [hr, List.length_drop]; omega
    have hjl : (lns L).length - 1 < (lns L).length := by omega
    simp only [T24b0, asCons_cons, asInt_int, asStr_str, asNil_nil]
    rw [e2, e3, wp_bif, if_neg (by simp), wp_ret]
    simp only [T24k1, sw_same, asCons_cons, asInt_int, asStr_str, asNil_nil, asSome_some]
    rw [wp_grd]
    refine ⟨by simp; omega, ?_⟩
    rw [Int.toNat_natCast]
    refine wp_rowW hR (by simp [cellsL]; omega) rfl fun σ3 _ _ hR3 => ?_
    have e4 : wi64 ((((lns L).length - 1 : Nat) : Int) + 1) = (((lns L).length : Nat) : Int) := by rw [wi64_in (by omega)]; omega
    rw [wp_grd, e4]
    refine ⟨by simp, ?_⟩
    rw [wp_ret, Int.toNat_natCast]
    refine ⟨_, rfl, ?_⟩
    simp only [asSlice_slice]
    rw [wp_ret]
    have hg : (lns L)[(lns L).length - 1] = r := by
      have e5 : lns r = [r] := by
        rcases index_lns r with ⟨h1, h2⟩ | ⟨m, h1, h2, h3⟩
        · exact h2
        · rw [h3] at hdl
          have := lns_len (r.drop (m + 1))
          simp only [List.length_cons] at hdl
          omega
      have : (lns L).drop ((lns L).length - 1) = (lns L)[(lns L).length - 1] :: (lns L).drop ((lns L).length - 1 + 1) := List.drop_eq_getElem_cons hjl
      rw [← hr, e5] at this
      exact (List.cons.inj this).1.symm
    have e6 : (cellsL ((lns L).take ((lns L).length - 1)) ((lns L).length - ((lns L).length - 1))).set ((lns L).length - 1) (.string (mkB r)) = (lns L).map fun x => .string (mkB x) := by
      unfold cellsL
      rw [List.set_append_right _ _ (by simp), List.length_map, List.length_take, Nat.min_eq_left (by omega), Nat.sub_self, show (lns L).length - ((lns L).length - 1) = 1 by omega]
      have et : lns L = (lns L).take ((lns L).length - 1) ++ [r] := by
        have := List.take_succ_eq_append_getElem hjl
        rw [show (lns L).length - 1 + 1 = (lns L).length by omega, List.take_length, hg] at this
        exact this
      conv => rhs; rw [et]
      simp
    rw [e6] at hR3
    exact ⟨_, rfl, hQ σ3 σ.n 0 1 _ hR3⟩

theorem wp_line (hov : OvN ov) (s : ByteArray) (hs : s.size ≤ 1000000) (n : Int) (hn : -9223372036854775808 ≤ n ∧ n ≤ 9223372036854775807) {Q : Value → AHeap → Prop}
    (hQ : ∀ σ', Q (.tuple #[.string (mkB (lineM s.data.toList n).1), .bool (lineM s.data.toList n).2]) σ') : WpF PROG ov 15 [.string s, .int .i64 n] σ Q := by
  refine WpF.of (T15_eq _ _) (hov.n 15 (by decide) (by decide)) ?_
  rw [T15, wp_call]
  refine wp_split hov s hs fun σ1 b off sp cap hR => ?_
  rw [asSlice_slice, wp_join, wp_bif]
  unfold lineM at hQ
  have hll := lns_len s.data.toList
  have hcl := List.count_le_length (a := (10 : UInt8)) (l := s.data.toList)
  rw [size_len] at hcl
  have no : ¬ (1 ≤ n ∧ n ≤ ((lns s.data.toList).length : Int)) → Wp PROG ov (T15k0 (some ⟨b, off, some sp⟩) n (lns s.data.toList).length .normal [.bool true]) σ1 fun _ vs σ' => ∃ v, vs = [v] ∧ Q v σ' := by
    intro h
    rw [if_neg h] at hQ
    simp only [T15k0, sw_same, asCons_cons, asBool_bool, asNil_nil]
    rw [wp_bif, if_pos rfl, wp_ret]
    exact ⟨_, rfl, hQ σ1⟩
  by_cases h1 : n < 1
  · rw [if_neg (by simp [h1]), wp_ret]
    exact no (by omega)
  · rw [if_pos (by simp; omega), wp_ret]
    by_cases h2 : n > (((lns s.data.toList).length : Nat) : Int)
    · rw [decide_eq_true h2]
      exact no (by omega)
    · rw [decide_eq_false h2]
      rw [if_pos ⟨by omega, by omega⟩] at hQ
      have e1 : wi64 (n - 1) = ((n.toNat - 1 : Nat) : Int) := by rw [wi64_in (by omega)]; omega
      have hlt : n.toNat - 1 < (lns s.data.toList).length := by omega
      simp only [T15k0, sw_same, asCons_cons, asBool_bool, asNil_nil, asSome_some]
      rw [wp_bif, if_neg (by simp), e1, wp_grd]
      refine ⟨by simp; omega, ?_⟩
      rw [Int.toNat_natCast, wp_rowR (v := .string (mkB ((lns s.data.toList).getD (n.toNat - 1) []))) hR (by simp [hlt, List.getD]), asStr_str, wp_ret]
      exact ⟨_, rfl, hQ σ1⟩
end
end Go.Pg
