/- Layer 1: the document's Line; Pos, and the document's: they agree. -/
import Derived.Test.YtniknfiaapcmlaaDoorLines
namespace Go.Pg
open Go.Proofs Go.Utf8
section
variable {ov : Ov}

/-- The loop that counts. -/
theorem wp_runes_loop (s : ByteArray) (hs : s.size ≤ 4611686018427387904) (k : Ex → List Value → Pg) (σ : AHeap) (Q : Post) (h : ∀ σ', Wp PROG ov (k (.exit 0) [.int .i64 (cnt s : Nat)]) σ' Q) :
    Wp PROG ov (.act (rng s) fun v1 => asPtr v1 fun p2 => asSome p2 fun a3 => .loop [(.int .i64 0)] (T10b0 a3) k) σ Q := by
  rw [wp_act, rng_eq]
  simp only [asPtr_ptr, asSome_some]
  refine Wp.loop (fun m st σ' => ∃ p c : Nat, m = s.size - p ∧ σ'.get σ.n = some (.iter s p) ∧ st = [.int .i64 ((c : Nat) : Int)] ∧ c + cntF s (s.size - p) p = cnt s ∧ c ≤ p ∧ p ≤ s.size) s.size
    ⟨0, 0, rfl, get_push_same _ _, rfl, by simp [cnt], Nat.le_refl _, Nat.zero_le _⟩ ?_
  rintro m st σ' ⟨p, c, rfl, hg, rfl, hc, hcp, hp⟩
  simp only [T10b0, asCons_cons, asInt_int, asNil_nil]
  by_cases h1 : p < s.size
  · have hw := width s h1
    have e1 : wi64 ((c : Int) + 1) = ((c + 1 : Nat) : Int) := by rw [wi64_in (by omega)]; omega
    rw [wp_nxt_more hg h1, wp_join, wp_ret]
    simp only [T10k0, sw_same, asCons_cons, asInt_int, asNil_nil, wp_ret, e1]
    refine ⟨_, ?_, p + (Utf8.decode s p).2, c + 1, rfl, get_put_same _ _ _, rfl, ?_, by omega, hw.2⟩
    · omega
    · have : cntF s (s.size - p) p = cntF s (s.size - (p + (Utf8.decode s p).2)) (p + (Utf8.decode s p).2) + 1 := by
        obtain ⟨f, hf⟩ : ∃ f, s.size - p = f + 1 := ⟨s.size - p - 1, by omega⟩
        rw [hf]
        conv => lhs; unfold cntF
        rw [if_pos h1, cntF_fuel s f (s.size - (p + (Utf8.decode s p).2)) _ (by omega) (by omega)]
      omega
  · obtain rfl : p = s.size := by omega
    rw [wp_nxt_end hg h1, wp_ret]
    have : cnt s = c := by
      rw [Nat.sub_self] at hc
      simpa [cntF] using hc.symm
    rw [← this]
    exact h σ'

theorem wp_runes (hov : OvN ov) (s : ByteArray) (hs : s.size ≤ 4611686018427387904) (σ : AHeap) {Q : Value → AHeap → Prop} (hQ : ∀ σ', Q (.int .i64 (cnt s : Nat)) σ') : WpF PROG ov 10 [.string s] σ Q := by
  refine WpF.of (T10_eq _) (hov.n 10 (by decide) (by decide)) ?_
  rw [T10]
  refine wp_runes_loop s hs _ σ _ fun σ' => ?_
  simp only [T10k1, sw_same, asCons_cons, asInt_int, asNil_nil, wp_ret]
  exact ⟨_, rfl, hQ σ'⟩

theorem cnt_le (s : ByteArray) : cnt s ≤ s.size := cntF_le s _ _

/-- Pos. -/
theorem posF_le (s : ByteArray) (at' : Nat) : ∀ f p l c, (posF s at' f p l c).1 ≤ l + f ∧ (posF s at' f p l c).2 ≤ max c 1 + f
  | 0, p, l, c => by simp [posF]; omega
  | f + 1, p, l, c => by
    unfold posF
    split
    · split
      · simp only; omega
      · split
        · have := posF_le s at' f (p + (Utf8.decode s p).2) (l + 1) 1
          omega
        · have := posF_le s at' f (p + (Utf8.decode s p).2) l (c + 1)
          omega
    · simp only; omega

theorem posF_fuel (s : ByteArray) (at' : Nat) : ∀ f f' p l c, s.size ≤ p + f → s.size ≤ p + f' → posF s at' f p l c = posF s at' f' p l c
  | 0, f', p, l, c, h, _ => by
    cases f' with
    | zero => rfl
    | succ f' => unfold posF; rw [if_neg (by omega)]
  | f + 1, 0, p, l, c, _, h => by unfold posF; rw [if_neg (by omega)]
  | f + 1, f' + 1, p, l, c, h1, h2 => by
    unfold posF
    split
    · rename_i hp
      have := (width s hp).1
      rw [posF_fuel s at' f f' _ (l + 1) 1 (by omega) (by omega), posF_fuel s at' f f' _ l (c + 1) (by omega) (by omega)]
    · rfl

theorem wp_pos (hov : OvN ov) (s : ByteArray) (hs : s.size ≤ 1000000) (i : Int) (at' : Nat) (ha : minV (maxV i 0) ((s.size : Nat) : Int) = (at' : Int)) (σ : AHeap) {Q : Value → AHeap → Prop}
    (hQ : ∀ σ', Q (.tuple #[.int .i64 ((posF s at' s.size 0 1 1).1 : Nat), .int .i64 ((posF s at' s.size 0 1 1).2 : Nat)]) σ') : WpF PROG ov 11 [.string s, .int .i64 i] σ Q := by
  refine WpF.of (T11_eq _ _) (hov.n 11 (by decide) (by decide)) ?_
  rw [T11, wp_act, rng_eq]
  simp only [asPtr_ptr, asSome_some]
  refine Wp.loop (fun m st σ' => ∃ p l c : Nat, m = s.size - p ∧ σ'.get σ.n = some (.iter s p) ∧ st = [.int .i64 ((l : Nat) : Int), .int .i64 ((c : Nat) : Int)] ∧ posF s at' (s.size - p) p l c = posF s at' s.size 0 1 1 ∧ l ≤ p + 1 ∧ c ≤ p + 1 ∧ p ≤ s.size) s.size
    ⟨0, 1, 1, rfl, get_push_same _ _, rfl, rfl, by omega, by omega, Nat.zero_le _⟩ ?_
  rintro m st σ' ⟨p, l, c, rfl, hg, rfl, hr, hl, hc, hp⟩
  simp only [T11b0, asCons_cons, asInt_int, asNil_nil, ha]
  by_cases h1 : p < s.size
  · have hw := width s h1
    have e1 : wi64 ((l : Int) + 1) = ((l + 1 : Nat) : Int) := by rw [wi64_in (by omega)]; omega
    have e2 : wi64 ((c : Int) + 1) = ((c + 1 : Nat) : Int) := by rw [wi64_in (by omega)]; omega
    obtain ⟨f, hf⟩ : ∃ f, s.size - p = f + 1 := ⟨s.size - p - 1, by omega⟩
    have hstep : posF s at' (s.size - p) p l c = if at' ≤ p then (l, c) else if (Utf8.decode s p).1 = 10 then posF s at' (s.size - (p + (Utf8.decode s p).2)) (p + (Utf8.decode s p).2) (l + 1) 1 else posF s at' (s.size - (p + (Utf8.decode s p).2)) (p + (Utf8.decode s p).2) l (c + 1) := by
      rw [hf]
      conv => lhs; unfold posF
      rw [if_pos h1, posF_fuel s at' f (s.size - (p + (Utf8.decode s p).2)) _ (l + 1) 1 (by omega) (by omega), posF_fuel s at' f (s.size - (p + (Utf8.decode s p).2)) _ l (c + 1) (by omega) (by omega)]
    rw [hstep] at hr
    rw [wp_nxt_more hg h1, wp_join, wp_bif]
    by_cases h2 : at' ≤ p
    · rw [if_pos h2] at hr
      rw [if_pos (by simp; omega), wp_ret]
      simp only [T11k1, T11k2, sw_same, asCons_cons, asInt_int, asNil_nil, wp_ret]
      have := hQ (σ'.put σ.n (.iter s (p + (Utf8.decode s p).2)))
      rw [← hr] at this
      exact ⟨_, rfl, this⟩
    · rw [if_neg h2] at hr
      rw [if_neg (by simp; omega), wp_join, wp_bif]
      by_cases h3 : (Utf8.decode s p).1 = 10
      · rw [if_pos h3] at hr
        rw [if_pos (by rw [h3]; rfl), wp_ret]
        simp only [T11k0, T11k1, sw_same, sw_ne, asCons_cons, asInt_int, asNil_nil, wp_ret, e1]
        exact ⟨_, by omega, p + (Utf8.decode s p).2, l + 1, 1, rfl, get_put_same _ _ _, rfl, hr, by omega, by omega, hw.2⟩
      · rw [if_neg h3] at hr
        rw [if_neg (by simp; omega), wp_ret]
        simp only [T11k0, T11k1, sw_same, sw_ne, asCons_cons, asInt_int, asNil_nil, wp_ret, e2]
        exact ⟨_, by omega, p + (Utf8.decode s p).2, l, c + 1, rfl, get_put_same _ _ _, rfl, hr, by omega, by omega, hw.2⟩
  · obtain rfl : p = s.size := by omega
    rw [wp_nxt_end hg h1, wp_ret]
    rw [Nat.sub_self] at hr
    simp only [T11k2, sw_same, asCons_cons, asInt_int, asNil_nil, wp_ret]
    have := hQ σ'
    rw [← hr] at this
    exact ⟨_, rfl, this⟩


/-- The document's count. -/
theorem wp_count18 (hov : OvN ov) (s : ByteArray) (hs : s.size ≤ 4611686018427387904) (σ : AHeap) {Q : Value → AHeap → Prop} (hQ : ∀ σ', Q (.int .i64 (cnt s : Nat)) σ') : WpF PROG ov 18 [.string s] σ Q := by
  refine WpF.of (T18_eq _) (hov.n 18 (by decide) (by decide)) ?_
  rw [T18, show T18b0 = T10b0 from rfl]
  refine wp_runes_loop s hs _ σ _ fun σ' => ?_
  simp only [T18k1, sw_same, asCons_cons, asInt_int, asNil_nil, wp_ret]
  exact ⟨_, rfl, hQ σ'⟩

theorem byteAt_L (s : ByteArray) (i : Nat) : byteAt s i = (((s.data.toList.getD i 0).toNat : Nat) : Int) := rfl
theorem b10 (c : UInt8) : ((c.toNat : Nat) : Int) = 10 ↔ c = 10 := by
  constructor
  · intro h
    have : c.toNat = (10 : UInt8).toNat := by
      have e : (10 : UInt8).toNat = 10 := rfl
      omega
    exact UInt8.toNat_inj.1 this
  · rintro rfl
    rfl

/-- The document's Line. -/
theorem wp_line17 (hov : OvN ov) (s : ByteArray) (hs : s.size ≤ 1000000) (n : Int) (σ : AHeap) {Q : Value → AHeap → Prop}
    (hQ : ∀ σ', Q (.tuple #[.string (mkB (lineM s.data.toList n).1), .bool (lineM s.data.toList n).2]) σ') : WpF PROG ov 17 [.string s, .int .i64 n] σ Q := by
  have hsl := size_len s
  refine WpF.of (T17_eq _ _) (hov.n 17 (by decide) (by decide)) ?_
  rw [T17]
  obtain ⟨L, hL⟩ : ∃ L, L = s.data.toList := ⟨_, rfl⟩
  rw [← hL] at hQ hsl
  have hlen : ∀ X : List (List UInt8), lns L = X → X.length ≤ L.length + 1 := fun X h => by
    rw [← h, lns_len]
    have := List.count_le_length (a := (10 : UInt8)) (l := L)
    omega
  refine Wp.count (s.size + 1) (fun j st σ' => ∃ (fr : Nat) (dn : List (List UInt8)), st = [.int .i64 ((j : Nat) : Int), .int .i64 ((fr : Nat) : Int), .int .i64 ((dn.length + 1 : Nat) : Int), .bool false, .string (bs [])] ∧ (n < 1 ∨ ((dn.length + 1 : Nat) : Int) ≤ n) ∧
    (j ≤ s.size → fr ≤ j ∧ lns L = dn ++ hd1 ((L.take j).drop fr) (lns (L.drop j))) ∧ (j = s.size + 1 → lns L = dn))
    ⟨0, [], rfl, by simp; omega, fun _ => ⟨Nat.le_refl _, by simp [hd1_nil (lns_ne L)]⟩, fun h => by omega⟩ ?_ ?_
  · rintro j st σ1 hj ⟨fr, dn, rfl, hn, hA, _⟩
    obtain ⟨hfr, hlns⟩ := hA (by omega)
    have hdl := hlen _ hlns
    rw [List.length_append] at hdl
    have ej : wi64 ((j : Int) + 1) = ((j + 1 : Nat) : Int) := by rw [wi64_in (by omega)]; omega
    have ed : wi64 (((dn.length + 1 : Nat) : Int) + 1) = ((dn.length + 1 + 1 : Nat) : Int) := by rw [wi64_in (by omega)]; omega
    simp only [T17b0, asCons_cons, asInt_int, asBool_bool, asStr_str, asNil_nil]
    rw [wp_bif, if_pos (by simp; omega), wp_join, wp_join]
    by_cases h1 : j < s.size ∧ L.getD j 0 ≠ 10
    · obtain ⟨hjs, hb⟩ := h1
      rw [wp_bif, if_pos (by simp; omega), wp_grd]
      refine ⟨by simp; omega, ?_⟩
      have hb' : (byteAt s j != 10) = true := by
        rw [byteAt_L, ← hL, bne_iff_ne]
        exact fun e => hb ((b10 _).1 e)
      rw [wp_ret, Int.toNat_natCast, hb']
      simp only [T17k0, sw_same, asCons_cons, asBool_bool, asNil_nil]
      rw [wp_bif, if_pos rfl, wp_ret]
      simp only [T17k1, sw_nr, sw_same, asCons_cons, asInt_int, asBool_bool, asStr_str, asNil_nil]
      rw [wp_ret, ej]
      refine ⟨fr, dn, rfl, hn, fun _ => ⟨by omega, ?_⟩, fun h => by omega⟩
      have hjl : j < L.length := by omega
      have e1 : L.drop j = L[j] :: L.drop (j + 1) := List.drop_eq_getElem_cons hjl
      have e2 : L[j] ≠ 10 := by
        have : L.getD j 0 = L[j] := by simp [List.getD, hjl]
        rw [← this]
        exact hb
      have e3 : lns (L.drop j) = hd1 [L[j]] (lns (L.drop (j + 1))) := by
        rw [e1]
        conv => lhs; unfold lns
        rw [if_neg e2]
      have e4 : (L.take (j + 1)).drop fr = (L.take j).drop fr ++ [L[j]] := by
        rw [List.take_succ_eq_append_getElem hjl, List.drop_append_of_le_length (by simp; omega)]
      rw [hlns, e3, hd1_app _ _ (lns_ne _), e4]
    · have red : ∀ Q : Post, Q .normal [.bool false] σ1 → Wp PROG ov (bif (decide (((j : Nat) : Int) < ((s.size : Nat) : Int))) == true then (grd ((decide (0 ≤ ((j : Nat) : Int))) && (decide (((j : Nat) : Int) < ((s.size : Nat) : Int)))) (.ret .normal [(.bool ((byteAt s (Int.toNat ((j : Nat) : Int))) != 10))])) else (.ret .normal [(.bool false)])) σ1 Q := by
        intro Q hq
        rw [wp_bif]
        by_cases hjs : j < s.size
        · rw [if_pos (by simp; omega), wp_grd]
          refine ⟨by simp; omega, ?_⟩
          have hb : L.getD j 0 = 10 := Classical.byContradiction fun e => h1 ⟨hjs, e⟩
          have hb' : (byteAt s j != 10) = false := by
            rw [byteAt_L, ← hL, hb]
            rfl
          rw [wp_ret, Int.toNat_natCast, hb']
          exact hq
        · rw [if_neg (by simp; omega), wp_ret]
          exact hq
      obtain ⟨rest, hr1, hr2, hr3⟩ : ∃ rest, lns L = dn ++ (L.take j).drop fr :: rest ∧ (j + 1 ≤ s.size → rest = lns (L.drop (j + 1))) ∧ (j = s.size → rest = []) := by
        by_cases hjs : j < s.size
        · have hb : L.getD j 0 = 10 := Classical.byContradiction fun e => h1 ⟨hjs, e⟩
          have hjl : j < L.length := by omega
          have e1 : L.drop j = L[j] :: L.drop (j + 1) := List.drop_eq_getElem_cons hjl
          have e2 : L[j] = 10 := by
            have : L.getD j 0 = L[j] := by simp [List.getD, hjl]
            rw [← this]
            exact hb
          have e3 : lns (L.drop j) = [] :: lns (L.drop (j + 1)) := by
            rw [e1]
            conv => lhs; unfold lns
            rw [if_pos e2]
          refine ⟨lns (L.drop (j + 1)), ?_, fun _ => rfl, fun h => by omega⟩
          rw [hlns, e3]
          simp [hd1]
        · have e1 : L.drop j = [] := List.drop_of_length_le (by omega)
          refine ⟨[], ?_, fun h => by omega, fun _ => rfl⟩
          rw [hlns, e1]
          simp [lns, hd1]
      refine red _ ?_
      simp only [T17k0, sw_same, asCons_cons, asBool_bool, asNil_nil]
      rw [wp_bif, if_neg (by simp), wp_bif]
      by_cases hq : ((dn.length + 1 : Nat) : Int) = n
      · rw [if_pos (by simpa using hq), wp_grd]
        refine ⟨by simp; omega, ?_⟩
        rw [wp_ret]
        simp only [T17k1, sw_same, asCons_cons, asInt_int, asBool_bool, asStr_str, asNil_nil]
        rw [wp_ret]
        simp only [T17k2, sw_re, sw_same, asCons_cons, asInt_int, asBool_bool, asStr_str, asNil_nil]
        rw [wp_ret]
        have em : lineM L n = ((L.take j).drop fr, true) := by
          unfold lineM
          rw [if_pos ⟨by omega, by rw [hr1]; simp; omega⟩, hr1, show n.toNat - 1 = dn.length by omega]
          simp
        have ex : s.extract (Int.toNat ((fr : Nat) : Int)) (Int.toNat ((j : Nat) : Int)) = mkB ((L.take j).drop fr) := by
          rw [Int.toNat_natCast, Int.toNat_natCast, ext_mkB, ← hL]
        rw [ex]
        have := hQ σ1
        rw [em] at this
        exact ⟨_, rfl, this⟩
      · rw [if_neg (by simpa using hq), wp_ret]
        simp only [T17k1, sw_nr, sw_same, asCons_cons, asInt_int, asBool_bool, asStr_str, asNil_nil]
        rw [wp_ret, ej, ed]
        refine ⟨j + 1, dn ++ [(L.take j).drop fr], by simp, by simp; omega, fun hj1 => ⟨Nat.le_refl _, ?_⟩, fun hj1 => ?_⟩
        · have e9 : (L.take (j + 1)).drop (j + 1) = [] := List.drop_of_length_le (by simp; omega)
          rw [hr1, hr2 hj1, e9, hd1_nil (lns_ne _)]
          simp
        · rw [hr1, hr3 (by omega)]
  · rintro st σ1 ⟨fr, dn, rfl, hn, _, hB⟩
    have hlns := hB rfl
    simp only [T17b0, asCons_cons, asInt_int, asBool_bool, asStr_str, asNil_nil]
    rw [wp_bif, if_neg (by simp; omega), wp_ret]
    simp only [T17k2, sw_same, asCons_cons, asInt_int, asBool_bool, asStr_str, asNil_nil]
    rw [wp_ret]
    have em : lineM L n = ([], false) := by
      unfold lineM
      rw [if_neg (by rw [hlns]; omega)]
    have := hQ σ1
    rw [em] at this
    exact ⟨_, rfl, this⟩

/-- The columns that a range from a place on counts. -/
def colF (s : ByteArray) (at' : Nat) : Nat → Nat → Nat → Nat
  | 0, _, c => c
  | f + 1, p, c => if p < s.size then colF s at' f (p + (Utf8.decode s p).2) (if p < at' then c + 1 else c) else c
theorem colF_fuel (s : ByteArray) (at' : Nat) : ∀ f f' p c, s.size ≤ p + f → s.size ≤ p + f' → colF s at' f p c = colF s at' f' p c
  | 0, f', p, c, h, _ => by
    cases f' with
    | zero => rfl
    | succ f' => unfold colF; rw [if_neg (by omega)]
  | f + 1, 0, p, c, _, h => by unfold colF; rw [if_neg (by omega)]
  | f + 1, f' + 1, p, c, h1, h2 => by
    unfold colF
    split
    · rename_i hp
      have := (width s hp).1
      exact colF_fuel s at' f f' _ _ (by omega) (by omega)
    · rfl
theorem colF_step (s : ByteArray) (at' p c : Nat) (hp : p < s.size) : colF s at' s.size p c = colF s at' s.size (p + (Utf8.decode s p).2) (if p < at' then c + 1 else c) := by
  have := (width s hp).1
  rw [colF_fuel s at' s.size (s.size - p - 1 + 1) p c (by omega) (by omega)]
  conv => lhs; unfold colF
  rw [if_pos hp]
  exact colF_fuel s at' _ _ _ _ (by omega) (by omega)
theorem colF_end (s : ByteArray) (at' p c : Nat) (hp : ¬ p < s.size) : colF s at' s.size p c = c := by
  cases hs : s.size with
  | zero => rfl
  | succ n => unfold colF; rw [if_neg (by omega)]
theorem colF_past (s : ByteArray) (at' : Nat) : ∀ f p c, at' ≤ p → colF s at' f p c = c
  | 0, _, _, _ => rfl
  | f + 1, p, c, h => by
    unfold colF
    split
    · rename_i hp
      have := (width s hp).1
      rw [colF_past s at' f _ _ (by omega), if_neg (by omega)]
    · rfl
/-- Where the line begins, and which it is. -/
def nlF (s : ByteArray) (at' : Nat) : Nat → Nat → Nat → Nat → Nat × Nat
  | 0, _, fr, ln => (fr, ln)
  | f + 1, i, fr, ln => if i < at' then (if s.data.toList.getD i 0 = 10 then nlF s at' f (i + 1) (i + 1) (ln + 1) else nlF s at' f (i + 1) fr ln) else (fr, ln)
theorem nlF_fuel (s : ByteArray) (at' : Nat) : ∀ f f' i fr ln, at' ≤ i + f → at' ≤ i + f' → nlF s at' f i fr ln = nlF s at' f' i fr ln
  | 0, f', i, fr, ln, h, _ => by
    cases f' with
    | zero => rfl
    | succ f' => unfold nlF; rw [if_neg (by omega)]
  | f + 1, 0, i, fr, ln, _, h => by unfold nlF; rw [if_neg (by omega)]
  | f + 1, f' + 1, i, fr, ln, h1, h2 => by
    unfold nlF
    split
    · rw [nlF_fuel s at' f f' (i + 1) (i + 1) (ln + 1) (by omega) (by omega), nlF_fuel s at' f f' (i + 1) fr ln (by omega) (by omega)]
    · rfl
theorem nlF_step (s : ByteArray) (at' i fr ln : Nat) (hi : i < at') : nlF s at' at' i fr ln = if s.data.toList.getD i 0 = 10 then nlF s at' at' (i + 1) (i + 1) (ln + 1) else nlF s at' at' (i + 1) fr ln := by
  rw [nlF_fuel s at' at' (at' - i - 1 + 1) i fr ln (by omega) (by omega)]
  conv => lhs; unfold nlF
  rw [if_pos hi, nlF_fuel s at' (at' - i - 1) at' (i + 1) (i + 1) (ln + 1) (by omega) (by omega), nlF_fuel s at' (at' - i - 1) at' (i + 1) fr ln (by omega) (by omega)]
theorem nlF_end (s : ByteArray) (at' i fr ln : Nat) (hi : ¬ i < at') : nlF s at' at' i fr ln = (fr, ln) := by
  rw [nlF_fuel s at' at' 0 i fr ln (by omega) (by omega)]
  rfl
theorem nlF_skip (s : ByteArray) (at' fr ln : Nat) : ∀ w i, (∀ k, i ≤ k → k < i + w → s.data.toList.getD k 0 ≠ 10) → nlF s at' at' i fr ln = nlF s at' at' (i + w) fr ln
  | 0, i, _ => rfl
  | w + 1, i, h => by
    by_cases hi : i < at'
    · rw [nlF_step s at' i fr ln hi, if_neg (h i (Nat.le_refl _) (by omega)), nlF_skip s at' fr ln w (i + 1) fun k h1 h2 => h k (by omega) (by omega), show i + 1 + w = i + (w + 1) by omega]
    · rw [nlF_end s at' i fr ln hi, nlF_end s at' _ fr ln (by omega)]

theorem byteN_L (s : ByteArray) (i : Nat) : byteN s i = (s.data.toList.getD i 0).toNat := rfl
theorem nat10 (c : UInt8) : c.toNat = 10 ↔ c = 10 := by
  constructor
  · intro h
    exact (b10 c).1 (by omega)
  · rintro rfl
    rfl
/-- A rune that is not 10 has no byte 10; 10 is one byte. -/
theorem dec_10 (g : Nat → Nat) (n i : Nat) : ((dec g n i).1 = 10 → g i = 10 ∧ (dec g n i).2 = 1) ∧ ((dec g n i).1 ≠ 10 → ∀ k, i ≤ k → k < i + (dec g n i).2 → g k ≠ 10) := by
  have key : ∀ k, g (i + k) / 64 = 2 → g (i + k) ≠ 10 := fun k h => by omega
  unfold dec
  simp only
  by_cases h0 : g i < 128
  · rw [if_pos h0]
    refine ⟨fun h => ⟨h, rfl⟩, fun h k h1 h2 => ?_⟩
    have : k = i := by simp only at h2; omega
    rw [this]
    exact h
  rw [if_neg h0]
  have one : ((runeError, 1) : Nat × Nat).1 ≠ 10 ∧ ∀ k, i ≤ k → k < i + 1 → g k ≠ 10 := by
    refine ⟨by decide, fun k h1 h2 => ?_⟩
    have : k = i := by omega
    rw [this]
    omega
  split
  · rename_i h1
    simp only [Bool.and_eq_true, beq_iff_eq, decide_eq_true_eq] at h1
    split
    · refine ⟨fun h => by simp only at h; omega, fun _ k h2 h3 => ?_⟩
      have hk : k = i ∨ k = i + 1 := by simp only at h3; omega
      rcases hk with rfl | rfl
      · omega
      · exact key 1 h1.2.2
    · exact ⟨fun h => absurd h one.1, fun _ => one.2⟩
  · split
    · rename_i h1
      simp only [Bool.and_eq_true, beq_iff_eq, decide_eq_true_eq] at h1
      split
      · rename_i h4
        refine ⟨fun h => by simp only [ge_iff_le, Bool.and_eq_true, decide_eq_true_eq] at h4 h; omega, fun _ k h2 h3 => ?_⟩
        have hk : k = i ∨ k = i + 1 ∨ k = i + 2 := by simp only at h3; omega
        rcases hk with rfl | rfl | rfl
        · omega
        · exact key 1 h1.1.2.2
        · exact key 2 h1.2.2
      · exact ⟨fun h => absurd h one.1, fun _ => one.2⟩
    · split
      · rename_i h1
        simp only [Bool.and_eq_true, beq_iff_eq, decide_eq_true_eq] at h1
        split
        · rename_i h4
          refine ⟨fun h => by simp only [ge_iff_le, Bool.and_eq_true, decide_eq_true_eq] at h4 h; omega, fun _ k h2 h3 => ?_⟩
          have hk : k = i ∨ k = i + 1 ∨ k = i + 2 ∨ k = i + 3 := by simp only at h3; omega
          rcases hk with rfl | rfl | rfl | rfl
          · omega
          · exact key 1 h1.1.1.2.2
          · exact key 2 h1.1.2.2
          · exact key 3 h1.2.2
        · exact ⟨fun h => absurd h one.1, fun _ => one.2⟩
      · exact ⟨fun h => absurd h one.1, fun _ => one.2⟩

/-- Both ways to tell a place agree. -/
theorem pos_agree (s : ByteArray) (at' : Nat) (ha : at' ≤ s.size) : ∀ d p l c fr, s.size - p = d → colF s at' s.size fr 1 = colF s at' s.size p c →
    posF s at' s.size p l c = ((nlF s at' at' p fr l).2, colF s at' s.size (nlF s at' at' p fr l).1 1) := by
  intro d
  induction d using Nat.strongRecOn with
  | _ d ih =>
    intro p l c fr hd hc
    by_cases hp : p < s.size
    · have hw := width s hp
      have hstep : posF s at' s.size p l c = if at' ≤ p then (l, c) else if (Utf8.decode s p).1 = 10 then posF s at' s.size (p + (Utf8.decode s p).2) (l + 1) 1 else posF s at' s.size (p + (Utf8.decode s p).2) l (c + 1) := by
        rw [posF_fuel s at' s.size (s.size - p - 1 + 1) p l c (by omega) (by omega)]
        conv => lhs; unfold posF
        rw [if_pos hp, posF_fuel s at' (s.size - p - 1) s.size _ (l + 1) 1 (by omega) (by omega), posF_fuel s at' (s.size - p - 1) s.size _ l (c + 1) (by omega) (by omega)]
      rw [hstep]
      by_cases h2 : at' ≤ p
      · rw [if_pos h2, nlF_end s at' p fr l (by omega), hc, colF_past s at' _ _ _ h2]
      · rw [if_neg h2]
        have hd10 := dec_10 (byteN s) s.size p
        rw [← decode_dec] at hd10
        by_cases h3 : (Utf8.decode s p).1 = 10
        · obtain ⟨e1, e2⟩ := hd10.1 h3
          rw [if_pos h3, e2, nlF_step s at' p fr l (by omega), if_pos (show s.data.toList.getD p 0 = 10 from (nat10 _).1 e1)]
          exact ih (s.size - (p + 1)) (by omega) (p + 1) (l + 1) 1 (p + 1) rfl rfl
        · rw [if_neg h3, nlF_skip s at' fr l (Utf8.decode s p).2 p fun k h1 h2 e => hd10.2 h3 k h1 h2 ((nat10 _).2 e)]
          refine ih (s.size - (p + (Utf8.decode s p).2)) (by omega) _ l (c + 1) fr rfl ?_
          rw [hc, colF_step s at' p c hp, if_pos (by omega)]
    · have e1 : posF s at' s.size p l c = (l, c) := by
        cases hs : s.size with
        | zero => rfl
        | succ n => unfold posF; rw [if_neg (by omega)]
      rw [e1, nlF_end s at' p fr l (by omega), hc, colF_end s at' p c hp]

/-- The document's Pos. -/
theorem wp_pos16 (hov : OvN ov) (s : ByteArray) (hs : s.size ≤ 1000000) (i : Int) (at' : Nat) (ha : minV (maxV i 0) ((s.size : Nat) : Int) = (at' : Int)) (σ : AHeap) {Q : Value → AHeap → Prop}
    (hQ : ∀ σ', Q (.tuple #[.int .i64 ((posF s at' s.size 0 1 1).1 : Nat), .int .i64 ((posF s at' s.size 0 1 1).2 : Nat)]) σ') : WpF PROG ov 16 [.string s, .int .i64 i] σ Q := by
  have hal : at' ≤ s.size := by rw [minV_eq, maxV_eq] at ha; omega
  have hag := pos_agree s at' hal s.size 0 1 1 0 rfl rfl
  rw [minV_eq, maxV_eq] at ha
  refine WpF.of (T16_eq _ _) (hov.n 16 (by decide) (by decide)) ?_
  rw [T16, wp_join, wp_bif]
  have main : Wp PROG ov (T16k6 s .normal [.int .i64 (at' : Int)]) σ fun _ vs σ' => ∃ v, vs = [v] ∧ Q v σ' := by
    simp only [T16k6, sw_same, asCons_cons, asInt_int, asNil_nil]
    refine Wp.count at' (fun j st σ' => ∃ fr ln : Nat, st = [.int .i64 ((j : Nat) : Int), .int .i64 ((fr : Nat) : Int), .int .i64 ((ln : Nat) : Int)] ∧ nlF s at' at' 0 0 1 = nlF s at' at' j fr ln ∧ fr ≤ j ∧ ln ≤ j + 1) ⟨0, 1, rfl, rfl, Nat.le_refl _, by omega⟩ ?_ ?_
    · rintro j st σ1 hj ⟨fr, ln, rfl, hn, hfr, hln⟩
      have ej : wi64 ((j : Int) + 1) = ((j + 1 : Nat) : Int) := by rw [wi64_in (by omega)]; omega
      have el : wi64 ((ln : Int) + 1) = ((ln + 1 : Nat) : Int) := by rw [wi64_in (by omega)]; omega
      rw [nlF_step s at' j fr ln hj] at hn
      simp only [T16b0, asCons_cons, asInt_int, asNil_nil]
      rw [wp_bif, if_pos (by simp; omega), wp_join, wp_grd]
      refine ⟨by simp; omega, ?_⟩
      rw [wp_join, wp_bif, Int.toNat_natCast, byteAt_L]
      by_cases hb : s.data.toList.getD j 0 = 10
      · rw [if_pos hb] at hn
        rw [if_pos (by rw [hb]; rfl), wp_ret]
        simp only [T16k0, T16k1, sw_same, asCons_cons, asInt_int, asNil_nil, wp_ret]
        rw [ej, el]
        exact ⟨j + 1, ln + 1, rfl, hn, Nat.le_refl _, by omega⟩
      · rw [if_neg hb] at hn
        rw [if_neg (by rw [beq_iff_eq]; exact fun e => hb ((b10 _).1 e)), wp_ret]
        simp only [T16k0, T16k1, sw_same, asCons_cons, asInt_int, asNil_nil, wp_ret]
        rw [ej]
        exact ⟨fr, ln, rfl, hn, by omega, by omega⟩
    · rintro st σ1 ⟨fr, ln, rfl, hn, hfr, hln⟩
      rw [nlF_end s at' at' fr ln (by omega)] at hn
      rw [hn] at hag
      simp only at hag
      simp only [T16b0, asCons_cons, asInt_int, asNil_nil]
      rw [wp_bif, if_neg (by simp), wp_ret]
      simp only [T16k5, sw_same, asCons_cons, asInt_int, asNil_nil]
      rw [wp_grd]
      refine ⟨by simp; omega, ?_⟩
      rw [Int.toNat_natCast, wp_act, rng_eq]
      simp only [asPtr_ptr, asSome_some]
      obtain ⟨t, ht⟩ : ∃ t, t = s.extract fr s.size := ⟨_, rfl⟩
      rw [← ht]
      have hts : t.size = s.size - fr := by rw [ht]; simp
      have htd : ∀ q, Utf8.decode s (fr + q) = Utf8.decode t q := by
        intro q
        have hs' : s.size = fr + t.size := by omega
        rw [decode_dec, decode_dec, hs']
        refine dec_shift _ _ _ _ _ fun k => ?_
        rw [byteN_L, byteN_L, ht, ext_mkB, mkB_data, ← size_len, List.take_length]
        simp [List.getD]
      refine Wp.loop (fun m st σ' => ∃ q c : Nat, m = t.size - q ∧ σ'.get σ1.n = some (.iter t q) ∧ st = [.int .i64 ((c : Nat) : Int)] ∧ colF s at' s.size fr 1 = colF s at' s.size (fr + q) c ∧ c ≤ q + 1 ∧ q ≤ t.size) t.size
        ⟨0, 1, rfl, get_push_same _ _, rfl, rfl, by omega, Nat.zero_le _⟩ ?_
      rintro m st σ' ⟨q, c, rfl, hg, rfl, hc, hcq, hq⟩
      simp only [T16b1, asCons_cons, asInt_int, asNil_nil]
      by_cases h1 : q < t.size
      · have hw := width t h1
        have e1 : wi64 ((c : Int) + 1) = ((c + 1 : Nat) : Int) := by rw [wi64_in (by omega)]; omega
        have e2 : wi64 ((fr : Int) + (q : Int)) = ((fr + q : Nat) : Int) := by rw [wi64_in (by omega)]; omega
        have hst := colF_step s at' (fr + q) c (by omega)
        rw [htd, Nat.add_assoc] at hst
        rw [wp_nxt_more hg h1, wp_join, wp_join, e2, wp_bif]
        by_cases h2 : fr + q < at'
        · rw [if_pos h2] at hst
          rw [if_pos (by simp; omega), wp_ret]
          simp only [T16k2, T16k3, sw_same, asCons_cons, asInt_int, asNil_nil, wp_ret, e1]
          exact ⟨_, by omega, q + (Utf8.decode t q).2, c + 1, rfl, get_put_same _ _ _, rfl, by rw [hc, hst], by omega, hw.2⟩
        · rw [if_neg h2] at hst
          rw [if_neg (by simp; omega), wp_ret]
          simp only [T16k2, T16k3, sw_same, asCons_cons, asInt_int, asNil_nil, wp_ret]
          exact ⟨_, by omega, q + (Utf8.decode t q).2, c, rfl, get_put_same _ _ _, rfl, by rw [hc, hst], by omega, hw.2⟩
      · rw [wp_nxt_end hg h1, wp_ret]
        rw [colF_end s at' (fr + q) c (by omega)] at hc
        simp only [T16k4, sw_same, asCons_cons, asInt_int, asNil_nil, wp_ret]
        have := hQ σ'
        rw [hag, hc] at this
        exact ⟨_, rfl, this⟩
  have two : ∀ x : Int, (if x > ((s.size : Nat) : Int) then ((s.size : Nat) : Int) else x) = (at' : Int) → Wp PROG ov (T16k7 s .normal [.int .i64 x]) σ fun _ vs σ' => ∃ v, vs = [v] ∧ Q v σ' := by
    intro x hx
    simp only [T16k7, sw_same, asCons_cons, asInt_int, asNil_nil]
    rw [wp_join, wp_bif]
    by_cases h : x > ((s.size : Nat) : Int)
    · rw [if_pos h] at hx
      rw [if_pos (by simpa using h), wp_ret, hx]
      exact main
    · rw [if_neg h] at hx
      rw [if_neg (by simpa using h), wp_ret, hx]
      exact main
  by_cases h0 : i < 0
  · rw [if_pos (by simpa using h0), wp_ret]
    exact two 0 (by rw [if_neg (by omega)]; omega)
  · rw [if_neg (by simpa using h0), wp_ret]
    refine two i ?_
    split <;> omega
end
end Go.Pg
