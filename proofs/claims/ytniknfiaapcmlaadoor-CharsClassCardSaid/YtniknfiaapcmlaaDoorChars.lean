/- Layer 1: how many runes a text has; where a byte stands; two laws of them. -/
import Derived.Test.YtniknfiaapcmlaaDoorV
namespace Go.Pg
open Go.Proofs Go.Utf8

theorem awake1 : WpF PROG ovD 9 [] (startH (tabOld tabsD)) fun v _ => v = .bool true := WpF.tab TAB_ok 100000 (by kernel_rfl)

/-- The loop that counts. -/
theorem wp_runes_loop (s : ByteArray) (hs : s.size ≤ 4611686018427387904) (k : Ex → List Value → Pg) (σ : AHeap) (Q : Post) (h : ∀ σ', Wp PROG ovD (k (.exit 0) [.int .i64 (cnt s : Nat)]) σ' Q) :
    Wp PROG ovD (.act (rng s) fun v1 => asPtr v1 fun p2 => asSome p2 fun a3 => .loop [(.int .i64 0)] (T10b0 a3) k) σ Q := by
  rw [wp_act, rng_eq]
  simp only [asPtr_ptr, asSome_some]
  refine Wp.loop (fun m st σ' => ∃ p c : Nat, m = s.size - p ∧ σ'.get σ.n = some (.iter s p) ∧ st = [.int .i64 ((c : Nat) : Int)] ∧ c + cntF s (s.size - p) p = cnt s ∧ c ≤ p ∧ p ≤ s.size) s.size
    ⟨0, 0, rfl, get_push_same _ _, rfl, by simp [cnt], Nat.le_refl _, Nat.zero_le _⟩ ?_
  rintro m st σ' ⟨p, c, rfl, hg, rfl, hc, hcp, hp⟩
  simp only [T10b0, asCons_cons, asInt_int, asNil_nil]
  by_cases h1 : p < s.size
  · have hw := width s h1
    have e1 : wi64 ((c : Int) + 1) = ((c + 1 : Nat) : Int) := by rw [wi64_in (by omega)]; omega
    rw [wp_nxt_more hg h1, wp_join, wp_ret]
    simp only [T10k0, sw_same, asCons_cons, asInt_int, asNil_nil, wp_ret, e1]
    refine ⟨_, ?_, p + (Utf8.decode s p).2, c + 1, rfl, get_put_same _ _ _, rfl, ?_, by omega, hw.2⟩
    · omega
    · have : cntF s (s.size - p) p = cntF s (s.size - (p + (Utf8.decode s p).2)) (p + (Utf8.decode s p).2) + 1 := by
        obtain ⟨f, hf⟩ : ∃ f, s.size - p = f + 1 := ⟨s.size - p - 1, by omega⟩
        rw [hf]
        conv => lhs; unfold cntF
        rw [if_pos h1, cntF_fuel s f (s.size - (p + (Utf8.decode s p).2)) _ (by omega) (by omega)]
      omega
  · obtain rfl : p = s.size := by omega
    rw [wp_nxt_end hg h1, wp_ret]
    have : cnt s = c := by
      rw [Nat.sub_self] at hc
      simpa [cntF] using hc.symm
    rw [← this]
    exact h σ'

theorem wp_runes (s : ByteArray) (hs : s.size ≤ 4611686018427387904) (σ : AHeap) {Q : Value → AHeap → Prop} (hQ : ∀ σ', Q (.int .i64 (cnt s : Nat)) σ') : WpF PROG ovD 10 [.string s] σ Q := by
  refine WpF.of (T10_eq _) rfl ?_
  rw [T10]
  refine wp_runes_loop s hs _ σ _ fun σ' => ?_
  simp only [T10k1, sw_same, asCons_cons, asInt_int, asNil_nil, wp_ret]
  exact ⟨_, rfl, hQ σ'⟩

theorem cnt_le (s : ByteArray) : cnt s ≤ s.size := cntF_le s _ _

theorem charsRunes_true (s0 : ByteArray) (_ : s0.size ≤ maxLen) (s1 : ByteArray) (_ : s1.size ≤ maxLen) : WpF PROG ovD 3 [.string s0, .string s1] (startH (tabOld tabsD)) fun v _ => v = .bool true := by
  refine WpF.of (T3_eq _ _) rfl ?_
  rw [T3, wp_call]
  refine awake1.mono ?_
  rintro v σ rfl
  simp only [asBool_bool]
  rw [wp_bif, if_neg (by simp), wp_join, wp_bif]
  have big : ∀ b : Bool, b = true → Wp PROG ovD (T3k3 s0 s1 .normal [.bool b]) σ fun _ vs σ' => ∃ v, vs = [v] ∧ v = .bool true := by
    rintro b rfl
    simp only [T3k3, sw_same, asCons_cons, asBool_bool, asNil_nil]
    rw [wp_bif, if_pos rfl, wp_ret]
    exact ⟨_, rfl, rfl⟩
  by_cases h0 : ((s0.size : Nat) : Int) > 200
  · rw [if_neg (by rw [decide_eq_true h0]; simp), wp_ret]
    exact big _ rfl
  · rw [if_pos (by rw [decide_eq_false h0]; rfl), wp_ret]
    by_cases h1 : ((s1.size : Nat) : Int) > 200
    · exact big _ (decide_eq_true h1)
    · simp only [T3k3, sw_same, asCons_cons, asBool_bool, asNil_nil]
      rw [wp_bif, if_neg (by rw [decide_eq_false h1]; simp), show T3b0 = T10b0 from rfl]
      refine wp_runes_loop s0 (by omega) _ _ _ fun σ1 => ?_
      simp only [T3k2, sw_same, asCons_cons, asInt_int, asNil_nil]
      rw [wp_call]
      refine wp_runes s0 (by omega) _ fun σ2 => ?_
      simp only [asInt_int]
      have c0 := cnt_le s0
      have c1 := cnt_le s1
      have fin : (s1.size = 0 ∨ byteN s1 0 < 128) → Wp PROG ovD (T3k1 s0 s1 .normal [.bool false]) σ2 fun _ vs σ' => ∃ v, vs = [v] ∧ v = .bool true := by
        intro hb
        have ha := cnt_append s0 s1 hb
        have e1 : wi64 ((cnt s0 : Int) + (cnt s1 : Int)) = (cnt s0 : Int) + (cnt s1 : Int) := wi64_in (by omega)
        simp only [T3k1, sw_same, asCons_cons, asBool_bool, asNil_nil]
        rw [wp_bif, if_neg (by simp), wp_grd]
        refine ⟨by rw [Nat.ble_eq]; omega, ?_⟩
        rw [wp_call]
        refine wp_runes (s0 ++ s1) (by rw [size_app]; omega) _ fun σ3 => ?_
        simp only [asInt_int]
        rw [wp_call]
        refine wp_runes s0 (by omega) _ fun σ4 => ?_
        simp only [asInt_int]
        rw [wp_call]
        refine wp_runes s1 (by omega) _ fun σ5 => ?_
        simp only [asInt_int, wp_ret, e1, ha]
        exact ⟨_, rfl, by simp⟩
      rw [wp_bif, if_neg (by simp), wp_join, wp_bif]
      by_cases hz : ((s1.size : Nat) : Int) > 0
      · rw [if_pos (by rw [decide_eq_true hz]; rfl), wp_grd]
        refine ⟨by simpa using hz, ?_⟩
        rw [wp_ret]
        have eb : byteAt s1 0 = (byteN s1 0 : Int) := rfl
        rw [eb]
        by_cases hb : (byteN s1 0 : Int) ≥ 128
        · rw [decide_eq_true hb]
          simp only [T3k1, sw_same, asCons_cons, asBool_bool, asNil_nil]
          rw [wp_bif, if_pos rfl, wp_ret]
          exact ⟨_, rfl, rfl⟩
        · rw [decide_eq_false hb]
          exact fin (.inr (by omega))
      · rw [if_neg (by rw [decide_eq_false hz]; simp), wp_ret]
        exact fin (.inl (by omega))

/-- Pos. -/
theorem posF_le (s : ByteArray) (at' : Nat) : ∀ f p l c, (posF s at' f p l c).1 ≤ l + f ∧ (posF s at' f p l c).2 ≤ max c 1 + f
  | 0, p, l, c => by simp [posF]; omega
  | f + 1, p, l, c => by
    unfold posF
    split
    · split
      · simp only; omega
      · split
        · have := posF_le s at' f (p + (Utf8.decode s p).2) (l + 1) 1
          omega
        · have := posF_le s at' f (p + (Utf8.decode s p).2) l (c + 1)
          omega
    · simp only; omega

theorem posF_fuel (s : ByteArray) (at' : Nat) : ∀ f f' p l c, s.size ≤ p + f → s.size ≤ p + f' → posF s at' f p l c = posF s at' f' p l c
  | 0, f', p, l, c, h, _ => by
    cases f' with
    | zero => rfl
    | succ f' => unfold posF; rw [if_neg (by omega)]
  | f + 1, 0, p, l, c, _, h => by unfold posF; rw [if_neg (by omega)]
  | f + 1, f' + 1, p, l, c, h1, h2 => by
    unfold posF
    split
    · rename_i hp
      have := (width s hp).1
      rw [posF_fuel s at' f f' _ (l + 1) 1 (by omega) (by omega), posF_fuel s at' f f' _ l (c + 1) (by omega) (by omega)]
    · rfl

theorem wp_pos (s : ByteArray) (hs : s.size ≤ 1000000) (i : Int) (at' : Nat) (ha : minV (maxV i 0) ((s.size : Nat) : Int) = (at' : Int)) (σ : AHeap) {Q : Value → AHeap → Prop}
    (hQ : ∀ σ', Q (.tuple #[.int .i64 ((posF s at' s.size 0 1 1).1 : Nat), .int .i64 ((posF s at' s.size 0 1 1).2 : Nat)]) σ') : WpF PROG ovD 11 [.string s, .int .i64 i] σ Q := by
  refine WpF.of (T11_eq _ _) rfl ?_
  rw [T11, wp_act, rng_eq]
  simp only [asPtr_ptr, asSome_some]
  refine Wp.loop (fun m st σ' => ∃ p l c : Nat, m = s.size - p ∧ σ'.get σ.n = some (.iter s p) ∧ st = [.int .i64 ((l : Nat) : Int), .int .i64 ((c : Nat) : Int)] ∧ posF s at' (s.size - p) p l c = posF s at' s.size 0 1 1 ∧ l ≤ p + 1 ∧ c ≤ p + 1 ∧ p ≤ s.size) s.size
    ⟨0, 1, 1, rfl, get_push_same _ _, rfl, rfl, by omega, by omega, Nat.zero_le _⟩ ?_
  rintro m st σ' ⟨p, l, c, rfl, hg, rfl, hr, hl, hc, hp⟩
  simp only [T11b0, asCons_cons, asInt_int, asNil_nil, ha]
  by_cases h1 : p < s.size
  · have hw := width s h1
    have e1 : wi64 ((l : Int) + 1) = ((l + 1 : Nat) : Int) := by rw [wi64_in (by omega)]; omega
    have e2 : wi64 ((c : Int) + 1) = ((c + 1 : Nat) : Int) := by rw [wi64_in (by omega)]; omega
    obtain ⟨f, hf⟩ : ∃ f, s.size - p = f + 1 := ⟨s.size - p - 1, by omega⟩
    have hstep : posF s at' (s.size - p) p l c = if at' ≤ p then (l, c) else if (Utf8.decode s p).1 = 10 then posF s at' (s.size - (p + (Utf8.decode s p).2)) (p + (Utf8.decode s p).2) (l + 1) 1 else posF s at' (s.size - (p + (Utf8.decode s p).2)) (p + (Utf8.decode s p).2) l (c + 1) := by
      rw [hf]
      conv => lhs; unfold posF
      rw [if_pos h1, posF_fuel s at' f (s.size - (p + (Utf8.decode s p).2)) _ (l + 1) 1 (by omega) (by omega), posF_fuel s at' f (s.size - (p + (Utf8.decode s p).2)) _ l (c + 1) (by omega) (by omega)]
    rw [hstep] at hr
    rw [wp_nxt_more hg h1, wp_join, wp_bif]
    by_cases h2 : at' ≤ p
    · rw [if_pos h2] at hr
      rw [if_pos (by simp; omega), wp_ret]
      simp only [T11k1, T11k2, sw_same, asCons_cons, asInt_int, asNil_nil, wp_ret]
      have := hQ (σ'.put σ.n (.iter s (p + (Utf8.decode s p).2)))
      rw [← hr] at this
      exact ⟨_, rfl, this⟩
    · rw [if_neg h2] at hr
      rw [if_neg (by simp; omega), wp_join, wp_bif]
      by_cases h3 : (Utf8.decode s p).1 = 10
      · rw [if_pos h3] at hr
        rw [if_pos (by rw [h3]; rfl), wp_ret]
        simp only [T11k0, T11k1, sw_same, sw_ne, asCons_cons, asInt_int, asNil_nil, wp_ret, e1]
        exact ⟨_, by omega, p + (Utf8.decode s p).2, l + 1, 1, rfl, get_put_same _ _ _, rfl, hr, by omega, by omega, hw.2⟩
      · rw [if_neg h3] at hr
        rw [if_neg (by simp; omega), wp_ret]
        simp only [T11k0, T11k1, sw_same, sw_ne, asCons_cons, asInt_int, asNil_nil, wp_ret, e2]
        exact ⟨_, by omega, p + (Utf8.decode s p).2, l, c + 1, rfl, get_put_same _ _ _, rfl, hr, by omega, by omega, hw.2⟩
  · obtain rfl : p = s.size := by omega
    rw [wp_nxt_end hg h1, wp_ret]
    rw [Nat.sub_self] at hr
    simp only [T11k2, sw_same, asCons_cons, asInt_int, asNil_nil, wp_ret]
    have := hQ σ'
    rw [← hr] at this
    exact ⟨_, rfl, this⟩

theorem charsMoves_true (s0 : ByteArray) (_ : s0.size ≤ maxLen) (a1 : Int) (_ : (Lit.int .i64 a1).wf = true) : WpF PROG ovD 4 [.string s0, .int .i64 a1] (startH (tabOld tabsD)) fun v _ => v = .bool true := by
  refine WpF.of (T4_eq _ _) rfl ?_
  rw [T4, wp_call]
  refine awake1.mono ?_
  rintro v σ rfl
  simp only [asBool_bool]
  rw [wp_bif, if_neg (by simp), wp_join, wp_bif]
  have big : ∀ b : Bool, b = true → Wp PROG ovD (T4k0 s0 a1 .normal [.bool b]) σ fun _ vs σ' => ∃ v, vs = [v] ∧ v = .bool true := by
    rintro b rfl
    simp only [T4k0, sw_same, asCons_cons, asBool_bool, asNil_nil]
    rw [wp_bif, if_pos rfl, wp_ret]
    exact ⟨_, rfl, rfl⟩
  by_cases h0 : (decide (((s0.size : Nat) : Int) > 300) || decide (a1 < 0)) = true
  · rw [if_neg (by rw [h0]; simp), wp_ret]
    exact big _ rfl
  · rw [if_pos (by rw [Bool.eq_false_iff.2 h0]; rfl), wp_ret]
    simp only [Bool.or_eq_true, decide_eq_true_eq, not_or] at h0
    by_cases h1 : a1 ≥ ((s0.size : Nat) : Int)
    · exact big _ (decide_eq_true h1)
    · have e1 : wi64 (a1 + 1) = a1 + 1 := wi64_in (by omega)
      simp only [T4k0, sw_same, asCons_cons, asBool_bool, asNil_nil, e1]
      rw [wp_bif, if_neg (by rw [decide_eq_false h1]; simp), wp_call]
      refine wp_pos s0 (by omega) a1 a1.toNat (by rw [minV_eq, maxV_eq]; omega) _ fun σ1 => ?_
      simp only [asTuple_tuple, asCons_cons, asInt_int, asNil_nil]
      rw [wp_call]
      refine wp_pos s0 (by omega) (a1 + 1) (a1.toNat + 1) (by rw [minV_eq, maxV_eq]; omega) _ fun σ2 => ?_
      simp only [asTuple_tuple, asCons_cons, asInt_int, asNil_nil]
      rw [wp_grd]
      refine ⟨by simp; omega, ?_⟩
      have eb : byteAt s0 a1.toNat = (byteN s0 a1.toNat : Int) := rfl
      have hm := pos_moves s0 a1.toNat (by omega) s0.size 0 1 1 (by omega) (by omega)
      have hle := posF_le s0 a1.toNat s0.size 0 1 1
      generalize posF s0 a1.toNat s0.size 0 1 1 = r at hm hle
      generalize posF s0 (a1.toNat + 1) s0.size 0 1 1 = r' at hm
      have e2 : wi64 ((r.1 : Int) + 1) = ((r.1 + 1 : Nat) : Int) := by rw [wi64_in (by omega)]; omega
      have e3 : wi64 ((r.2 : Int) + 1) = ((r.2 + 1 : Nat) : Int) := by rw [wi64_in (by omega)]; omega
      rw [eb, wp_bif, e2, e3]
      rcases hm with ⟨rfl, hb⟩ | ⟨hb, rfl⟩ | ⟨hb, rfl⟩
      · rw [if_neg (by simp; omega), wp_ret]
        exact ⟨_, rfl, by simp⟩
      · rw [if_pos (by rw [hb]; rfl), wp_ret]
        exact ⟨_, rfl, by simp⟩
      · rw [if_neg (by simp; omega), wp_ret]
        exact ⟨_, rfl, by simp⟩

end Go.Pg
